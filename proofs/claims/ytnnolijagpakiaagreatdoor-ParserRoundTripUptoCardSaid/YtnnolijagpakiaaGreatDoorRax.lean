/- Texts of this proof, part 24: what the proof uses of them. -/
import Derived.Test.YtnnolijagpakiaaGreatDoorRaw
import Derived.Test.YtnnolijagpakiaaGreatDoorRau
namespace Go.Proofs.YtnnolijagpakiaaGreatDoor
section
open Go Go.RowKit
inductive Pt where
 | word (s : List UInt8)
 | sign (s : List UInt8)
 | name
 | number
 | expr
 | tail
 | join (k : Int) (op : ByteArray) (a b c : Nat)
structure Mch where
 todo : List Pt
 nm : List ByteArray
 ni : List Int
 su : List Ex
def joinE (k : Int) (op : ByteArray) (a b c : Nat) (m : Mch) : Ex :=
 let ns := m.nm.drop (m.nm.length - a)
 let is := m.ni.drop (m.ni.length - b)
 .mk k (if 0 < a then ns.getD 0 ⟨#[]⟩ else op) (if 1 < a then ns.getD 1 ⟨#[]⟩ else ⟨#[]⟩) (if 1 < b then is.getD 0 0 else 0) (if 1 < b then is.getD 1 0 else 0) (m.su.drop (m.su.length - c))
def restP (y : KT) : Option (List Pt) :=
 if y = wd wFun then some [.name, .sign [45, 62], .expr, .sign [41], .join 6 ⟨#[]⟩ 1 0 1]
 else if y = wd wLet then some [.name, .sign [61], .expr, .word wIn, .expr, .sign [41], .join 8 ⟨#[]⟩ 1 0 2]
 else if y = wd wIf then some [.expr, .word wThen, .expr, .word wElse, .expr, .sign [41], .join 9 ⟨#[]⟩ 0 0 3]
 else if y = wd wCase then some [.expr, .word wOf, .word wNil, .sign [45, 62], .expr, .sign [124], .name, .sign [58, 58], .name, .sign [45, 62], .expr, .sign [41], .join 13 ⟨#[]⟩ 2 0 3]
 else if y = wd wChance then some [.number, .word wOf, .number, .sign [41], .join 14 ⟨#[]⟩ 0 2 0]
 else if y = wd wConflict then some [.expr, .sign [124, 124], .expr, .sign [124, 124], .expr, .sign [41], .join 15 ⟨#[]⟩ 0 0 3]
 else none
def tailP (z : KT) : List Pt × Bool :=
 if opT z then ([.expr, .sign [41], .join 10 (bsL z.2) 0 0 2], true)
 else if z = sg [58, 58] then ([.expr, .sign [41], .join 12 ⟨#[]⟩ 0 0 2], true)
 else ([.expr, .sign [41], .join 7 ⟨#[]⟩ 0 0 2], false)
def stepP (p : Pt) (m : Mch) (l : List KT) : PR Mch :=
 match p with
 | .word s => (eatT (wd s) l).bind fun _ r => (some m, r)
 | .sign s => (eatT (sg s) l).bind fun _ r => (some m, r)
 | .name => (pName l).bind fun n r => (some { m with nm := m.nm ++ [n] }, r)
 | .number => (pNum l).bind fun n r => (some { m with ni := m.ni ++ [n] }, r)
 | .expr => match l with
  | [] => (none, [])
  | y :: r => if y = sg [40] then match r with
    | [] => (none, [])
    | z :: q => match restP z with
     | some ps => (some { m with todo := ps ++ m.todo }, q)
     | none => (some { m with todo := .expr :: .tail :: m.todo }, z :: q)
   else (pLeaf (y :: r)).bind fun e r => (some { m with su := m.su ++ [e] }, r)
 | .tail => match l with
  | [] => (none, [])
  | z :: r => (some { m with todo := (tailP z).1 ++ m.todo }, if (tailP z).2 then r else z :: r)
 | .join k op a b c => (some ⟨m.todo, m.nm.take (m.nm.length - a), m.ni.take (m.ni.length - b), m.su.take (m.su.length - c) ++ [joinE k op a b c m]⟩, l)
inductive MRun : Nat → Mch → List KT → PR Mch → Prop
 | done (m : Mch) (l : List KT) (h : m.todo = []) : MRun 0 m l (some m, l)
 | fail (p : Pt) (ps : List Pt) (nm : List ByteArray) (ni : List Int) (su : List Ex) (l r : List KT) (h : stepP p ⟨ps, nm, ni, su⟩ l = (none, r)) : MRun 1 ⟨p :: ps, nm, ni, su⟩ l (none, r)
 | step (n : Nat) (p : Pt) (ps : List Pt) (nm : List ByteArray) (ni : List Int) (su : List Ex) (l r : List KT) (m' : Mch) (R : PR Mch) (h : stepP p ⟨ps, nm, ni, su⟩ l = (some m', r)) (h' : MRun n m' r R) : MRun (n + 1) ⟨p :: ps, nm, ni, su⟩ l R
def MRuns (ps : List Pt) (nm : List ByteArray) (ni : List Int) (su : List Ex) (l : List KT) (R : PR Mch) : Prop := ∃ n, MRun n ⟨ps, nm, ni, su⟩ l R
def Goes (td : List Pt) (nm : List ByteArray) (ni : List Int) (su : List Ex) (x : PR Ex) (R : PR Mch) : Prop :=
 match x with
 | (some e, r) => MRuns td nm ni (su ++ [e]) r R
 | (none, r) => R = (none, r)
variable {td ps : List Pt} {nm nm0 : List ByteArray} {ni ni0 : List Int} {su su0 : List Ex} {l : List KT} {R : PR Mch}
def Shorter (pe : List KT → PR Ex) : Prop := ∀ l, (pe l).2.length ≤ l.length
theorem eat_le (x : KT) (l : List KT) : (eatT x l).2.length ≤ l.length := by
 cases l with
 | nil => simp [eatT]
 | cons y r => rw [eatT]; split <;> simp
theorem bind_le {α β : Type} {x : PR α} {f : α → List KT → PR β} {n : Nat} (h : x.2.length ≤ n) (hf : ∀ a r, r.length ≤ n → (f a r).2.length ≤ n) : (x.bind f).2.length ≤ n := by
 obtain ⟨a, r⟩ := x
 cases a with
 | none => exact h
 | some a => exact hf a r h
theorem pName_le (l : List KT) : (pName l).2.length ≤ l.length := by
 cases l with
 | nil => simp [pName]
 | cons y r => rw [pName]; split <;> simp
theorem pNum_le (l : List KT) : (pNum l).2.length ≤ l.length := by
 cases l with
 | nil => simp [pNum]
 | cons y r => rw [pNum]; split <;> simp
theorem pDot_le (n : ByteArray) (l : List KT) : (pDot n l).2.length ≤ l.length := by
 cases l with
 | nil => simp [pDot]
 | cons y r =>
  rw [pDot]; split
  ·exact bind_le (Nat.le_trans (pName_le r) (by simp)) fun a r h => h
  ·simp
theorem pLeaf_le (l : List KT) : (pLeaf l).2.length ≤ l.length := by
 cases l with
 | nil => simp [pLeaf]
 | cons y r =>
  rw [pLeaf]
  repeat' split
  all_goals first | (simp; done) | exact Nat.le_trans (pDot_le _ r) (by simp)
theorem pTail_le {pe : List KT → PR Ex} (h : Shorter pe) (a : Ex) (l : List KT) : (pTail pe a l).2.length ≤ l.length := by
 cases l with
 | nil => rw [pTail]; exact bind_le (h _) fun _ _ h => h
 | cons y r =>
  rw [pTail]
  repeat' split
  ·exact bind_le (Nat.le_trans (h r) (by simp)) fun _ _ h => h
  ·exact bind_le (Nat.le_trans (h r) (by simp)) fun _ _ h => h
  ·exact bind_le (h _) fun _ _ h => h
theorem pIn_le {pe : List KT → PR Ex} (h : Shorter pe) (l : List KT) : (pIn pe l).2.length ≤ l.length := by
 have he : ∀ {n} (r : List KT), r.length ≤ n → (pe r).2.length ≤ n := fun r hr => Nat.le_trans (h r) hr
 have ht : ∀ {n} (a : Ex) (r : List KT), r.length ≤ n → (pTail pe a r).2.length ≤ n := fun a r hr => Nat.le_trans (pTail_le h a r) hr
 have h1 : ∀ {n} (x : KT) (r : List KT), r.length ≤ n → (eatT x r).2.length ≤ n := fun x r hr => Nat.le_trans (eat_le x r) hr
 have h2 : ∀ {n} (r : List KT), r.length ≤ n → (pName r).2.length ≤ n := fun r hr => Nat.le_trans (pName_le r) hr
 have h3 : ∀ {n} (r : List KT), r.length ≤ n → (pNum r).2.length ≤ n := fun r hr => Nat.le_trans (pNum_le r) hr
 cases l with
 | nil => rw [pIn]; exact bind_le (h _) fun a r hr => ht a r hr
 | cons y r =>
  rw [pIn]
  simp only [List.length_cons]
  unfold pFun pLet pIf pCase pChance pSum
  repeat' split
  all_goals (repeat' first | exact he _ (by simp) | exact h1 _ _ ‹_› | exact h2 _ ‹_› | exact h3 _ ‹_› | exact he _ ‹_› | exact ht _ _ ‹_› | exact h2 _ (by simp) | exact h3 _ (by simp) | exact ‹_› | refine bind_le ?_ fun _ _ _ => ?_)
theorem pE_le : ∀ f : Nat, Shorter (pE f)
 | 0, l => by simp [pE]
 | f + 1, [] => by simp [pE]
 | f + 1, y :: r => by
  rw [pE]
  split
  ·refine bind_le (Nat.le_trans (pIn_le (pE_le f) r) (by simp)) fun e q hq => ?_
   exact bind_le (Nat.le_trans (eat_le _ q) hq) fun _ _ h => h
  ·exact pLeaf_le _
theorem mruns_step {p : Pt} {r : List KT} {m : Mch} (h : stepP p ⟨ps, nm, ni, su⟩ l = (some m, r)) (h' : MRuns m.todo m.nm m.ni m.su r R) : MRuns (p :: ps) nm ni su l R := by
 obtain ⟨n, hn⟩ := h'
 exact ⟨_, .step n p ps nm ni su l r m R h hn⟩
theorem mruns_fail {p : Pt} {r : List KT} (h : stepP p ⟨ps, nm, ni, su⟩ l = (none, r)) (h' : R = (none, r)) : MRuns (p :: ps) nm ni su l R := by
 subst h'
 exact ⟨1, .fail p ps nm ni su l r h⟩
theorem mruns_eat {x : KT} {p : Pt} (hp : p = .word x.2 ∧ x.1 = 1 ∨ p = .sign x.2 ∧ x.1 = 4) {φ : Unit → List KT → PR Ex} (h : Goes td nm0 ni0 su0 ((eatT x l).bind φ) R) (h' : ∀ r, r.length ≤ l.length → Goes td nm0 ni0 su0 (φ () r) R → MRuns ps nm ni su r R) : MRuns (p :: ps) nm ni su l R := by
 have hle := eat_le x l
 obtain ⟨x1, x2⟩ := x
 have hs : ∀ m l, stepP p m l = (eatT (x1, x2) l).bind fun _ r => (some m, r) := fun m l => by
  rcases hp with ⟨rfl, h⟩ | ⟨rfl, h⟩ <;> cases h <;> rfl
 cases he : eatT (x1, x2) l with
 | mk a r =>
  rw [he] at h hle
  cases a with
  | none => exact mruns_fail (r := r) (by rw [hs, he]; rfl) h
  | some u => exact mruns_step (by rw [hs, he]; rfl) (h' r hle h)
theorem mruns_name {φ : ByteArray → List KT → PR Ex} (h : Goes td nm0 ni0 su0 ((pName l).bind φ) R) (h' : ∀ n r, r.length ≤ l.length → Goes td nm0 ni0 su0 (φ n r) R → MRuns ps (nm ++ [n]) ni su r R) : MRuns (.name :: ps) nm ni su l R := by
 have hle := pName_le l
 cases he : pName l with
 | mk a r =>
  rw [he] at h hle
  cases a with
  | none => exact mruns_fail (r := r) (by simp only [stepP, he]; rfl) h
  | some u => exact mruns_step (by simp only [stepP, he]; rfl) (h' u r hle h)
theorem mruns_num {φ : Int → List KT → PR Ex} (h : Goes td nm0 ni0 su0 ((pNum l).bind φ) R) (h' : ∀ n r, r.length ≤ l.length → Goes td nm0 ni0 su0 (φ n r) R → MRuns ps nm (ni ++ [n]) su r R) : MRuns (.number :: ps) nm ni su l R := by
 have hle := pNum_le l
 cases he : pNum l with
 | mk a r =>
  rw [he] at h hle
  cases a with
  | none => exact mruns_fail (r := r) (by simp only [stepP, he]; rfl) h
  | some u => exact mruns_step (by simp only [stepP, he]; rfl) (h' u r hle h)
def Reader (N : Nat) (pe : List KT → PR Ex) : Prop := ∀ l td nm ni su R, l.length < N → Goes td nm ni su (pe l) R → MRuns (.expr :: td) nm ni su l R
theorem mruns_expr {N : Nat} {pe : List KT → PR Ex} (hpe : Reader N pe) (hs : Shorter pe) (hl : l.length < N) {φ : Ex → List KT → PR Ex} (h : Goes td nm0 ni0 su0 ((pe l).bind φ) R) (h' : ∀ e r, r.length ≤ l.length → Goes td nm0 ni0 su0 (φ e r) R → MRuns ps nm ni (su ++ [e]) r R) : MRuns (.expr :: ps) nm ni su l R := by
 have hle := hs l
 refine hpe l ps nm ni su R hl ?_
 cases he : pe l with
 | mk a r =>
  rw [he] at h hle
  cases a with
  | none => exact h
  | some e => exact h' e r hle h
theorem mruns_join {k : Int} {op : ByteArray} {a b c : Nat} {e : Ex} {nm' : List ByteArray} {ni' : List Int} {su' : List Ex} (ns : List ByteArray) (is : List Int) (ss : List Ex) (h : Goes td nm ni su (some e, l) R) (h1 : nm' = nm ++ ns) (h2 : ni' = ni ++ is) (h3 : su' = su ++ ss) (ha : ns.length = a) (hb : is.length = b) (hc : ss.length = c) (he : joinE k op a b c ⟨td, ns, is, ss⟩ = e) :
  MRuns (.join k op a b c :: td) nm' ni' su' l R := by
 refine mruns_step (m := ⟨td, nm, ni, su ++ [e]⟩) ?_ h
 subst h1 h2 h3 ha hb hc he
 simp [stepP, joinE]
theorem opT_ne {z : KT} (h : opT z = true) : z ≠ sg [58, 58] := fun e => by
 subst e; revert h; decide
theorem bind_assoc {α β γ : Type} (x : PR α) (f : α → List KT → PR β) (g : β → List KT → PR γ) : (x.bind f).bind g = x.bind fun a r => (f a r).bind g := by
 obtain ⟨a, r⟩ := x; cases a <;> rfl
theorem mruns_tail {N : Nat} {pe : List KT → PR Ex} (hpe : Reader N pe) (hs : Shorter pe) (hn : pe [] = (none, [])) (hl : l.length < N) (a : Ex) (h : Goes td nm ni su ((pTail pe a l).bind fun e r => (eatT (sg [41]) r).bind fun _ r => (some e, r)) R) : MRuns (.tail :: td) nm ni (su ++ [a]) l R := by
 cases l with
 | nil =>
  rw [pTail, hn] at h
  exact mruns_fail (r := []) rfl h
 | cons z r =>
  rw [List.length_cons] at hl
  rw [pTail] at h
  by_cases h1 : z = sg [58, 58]
  ·rw [if_pos h1, bind_assoc] at h
   have ho : opT z = false := by cases ho : opT z with
    | false => rfl
    | true => exact absurd h1 (opT_ne ho)
   refine mruns_step (m := ⟨[.expr, .sign [41], .join 12 ⟨#[]⟩ 0 0 2] ++ td, nm, ni, su ++ [a]⟩) (r := r) (by show (some _, _) = _; unfold tailP; rw [if_neg (by rw [ho]; decide), if_pos h1]; rfl) ?_
   refine mruns_expr hpe hs (by omega) h fun e r hr h => mruns_eat (.inr ⟨rfl, rfl⟩) (x := sg [41]) h fun r hr h => mruns_join [] [] [a, e] h (by simp) (by simp) (by simp) rfl rfl rfl rfl
  ·rw [if_neg h1] at h
   by_cases h2 : opT z = true
   ·rw [if_pos h2, bind_assoc] at h
    refine mruns_step (m := ⟨[.expr, .sign [41], .join 10 (bsL z.2) 0 0 2] ++ td, nm, ni, su ++ [a]⟩) (r := r) (by simp [stepP, tailP, h2]) ?_
    refine mruns_expr hpe hs (by omega) h fun e r hr h => mruns_eat (.inr ⟨rfl, rfl⟩) (x := sg [41]) h fun r hr h => mruns_join [] [] [a, e] h (by simp) (by simp) (by simp) rfl rfl rfl rfl
   ·rw [if_neg h2, bind_assoc] at h
    refine mruns_step (m := ⟨[.expr, .sign [41], .join 7 ⟨#[]⟩ 0 0 2] ++ td, nm, ni, su ++ [a]⟩) (r := z :: r) (by simp [stepP, tailP, h1, h2]) ?_
    refine mruns_expr hpe hs (by rw [List.length_cons]; omega) h fun e r hr h => mruns_eat (.inr ⟨rfl, rfl⟩) (x := sg [41]) h fun r hr h => mruns_join [] [] [a, e] h (by simp) (by simp) (by simp) rfl rfl rfl rfl
set_option maxHeartbeats 1000000 in
theorem reader_in {N : Nat} {pe : List KT → PR Ex} (hpe : Reader N pe) (hs : Shorter pe) (hn : pe [] = (none, [])) (z : KT) (q : List KT) (hl : q.length + 1 < N) (h : Goes td nm ni su ((pIn pe (z :: q)).bind fun e r => (eatT (sg [41]) r).bind fun _ r => (some e, r)) R) :
  match restP z with
  | some ps => MRuns (ps ++ td) nm ni su q R
  | none => MRuns (.expr :: .tail :: td) nm ni su (z :: q) R := by
 rw [pIn] at h
 unfold restP
 by_cases h1 : z = wd wFun
 ·rw [if_pos h1] at h ⊢
  simp only [pFun, bind_assoc] at h
  exact mruns_name h fun n r _ h => mruns_eat (.inr ⟨rfl, rfl⟩) h fun r _ h => mruns_expr hpe hs (by omega) h fun e r _ h => mruns_eat (.inr ⟨rfl, rfl⟩) h fun r _ h => mruns_join [n] [] [e] h (by simp) (by simp) (by simp) rfl rfl rfl rfl
 rw [if_neg h1] at h ⊢
 by_cases h1 : z = wd wLet
 ·rw [if_pos h1] at h ⊢
  simp only [pLet, bind_assoc] at h
  exact mruns_name h fun n r _ h => mruns_eat (.inr ⟨rfl, rfl⟩) h fun r _ h => mruns_expr hpe hs (by omega) h fun a r _ h => mruns_eat (.inl ⟨rfl, rfl⟩) h fun r _ h => mruns_expr hpe hs (by omega) h fun b r _ h => mruns_eat (.inr ⟨rfl, rfl⟩) h fun r _ h => mruns_join [n] [] [a, b] h (by simp) (by simp) (by simp) rfl rfl rfl rfl
 rw [if_neg h1] at h ⊢
 by_cases h1 : z = wd wIf
 ·rw [if_pos h1] at h ⊢
  simp only [pIf, bind_assoc] at h
  exact mruns_expr hpe hs (by omega) h fun a r _ h => mruns_eat (.inl ⟨rfl, rfl⟩) h fun r _ h => mruns_expr hpe hs (by omega) h fun b r _ h => mruns_eat (.inl ⟨rfl, rfl⟩) h fun r _ h => mruns_expr hpe hs (by omega) h fun c r _ h => mruns_eat (.inr ⟨rfl, rfl⟩) h fun r _ h => mruns_join [] [] [a, b, c] h (by simp) (by simp) (by simp) rfl rfl rfl rfl
 rw [if_neg h1] at h ⊢
 by_cases h1 : z = wd wCase
 ·rw [if_pos h1] at h ⊢
  simp only [pCase, bind_assoc] at h
  exact mruns_expr hpe hs (by omega) h fun a r _ h => mruns_eat (.inl ⟨rfl, rfl⟩) h fun r _ h => mruns_eat (.inl ⟨rfl, rfl⟩) h fun r _ h => mruns_eat (.inr ⟨rfl, rfl⟩) h fun r _ h => mruns_expr hpe hs (by omega) h fun b r _ h => mruns_eat (.inr ⟨rfl, rfl⟩) h fun r _ h => mruns_name h fun n r _ h => mruns_eat (.inr ⟨rfl, rfl⟩) h fun r _ h => mruns_name h fun m r _ h => mruns_eat (.inr ⟨rfl, rfl⟩) h fun r _ h => mruns_expr hpe hs (by omega) h fun c r _ h => mruns_eat (.inr ⟨rfl, rfl⟩) h fun r _ h => mruns_join [n, m] [] [a, b, c] h (by simp) (by simp) (by simp) rfl rfl rfl rfl
 rw [if_neg h1] at h ⊢
 by_cases h1 : z = wd wChance
 ·rw [if_pos h1] at h ⊢
  simp only [pChance, bind_assoc] at h
  exact mruns_num h fun i r _ h => mruns_eat (.inl ⟨rfl, rfl⟩) h fun r _ h => mruns_num h fun d r _ h => mruns_eat (.inr ⟨rfl, rfl⟩) h fun r _ h => mruns_join [] [i, d] [] h (by simp) (by simp) (by simp) rfl rfl rfl rfl
 rw [if_neg h1] at h ⊢
 by_cases h1 : z = wd wConflict
 ·rw [if_pos h1] at h ⊢
  simp only [pSum, bind_assoc] at h
  exact mruns_expr hpe hs (by omega) h fun a r _ h => mruns_eat (.inr ⟨rfl, rfl⟩) h fun r _ h => mruns_expr hpe hs (by omega) h fun b r _ h => mruns_eat (.inr ⟨rfl, rfl⟩) h fun r _ h => mruns_expr hpe hs (by omega) h fun c r _ h => mruns_eat (.inr ⟨rfl, rfl⟩) h fun r _ h => mruns_join [] [] [a, b, c] h (by simp) (by simp) (by simp) rfl rfl rfl rfl
 rw [if_neg h1] at h ⊢
 rw [bind_assoc] at h
 exact mruns_expr hpe hs (by rw [List.length_cons]; omega) h fun a r hr h => mruns_tail hpe hs hn (by rw [List.length_cons] at hr; omega) a h
theorem pE_nil : ∀ f, pE f [] = (none, [])
 | 0 => rfl
 | _ + 1 => rfl
theorem stepP_leaf {m : Mch} {y : KT} {r : List KT} (h : y ≠ sg [40]) : stepP .expr m (y :: r) = (pLeaf (y :: r)).bind fun e r => (some { m with su := m.su ++ [e] }, r) := by
 unfold stepP; simp only [if_neg h]
theorem stepP_open {m : Mch} {y z : KT} {q : List KT} (h : y = sg [40]) : stepP .expr m (y :: z :: q) = match restP z with
  | some ps => (some { m with todo := ps ++ m.todo }, q)
  | none => (some { m with todo := .expr :: .tail :: m.todo }, z :: q) := by
 unfold stepP; simp only [if_pos h]
theorem stepP_end {m : Mch} {y : KT} (h : y = sg [40]) : stepP .expr m [y] = (none, []) := by
 unfold stepP; simp only [if_pos h]
theorem reader_pE : ∀ f : Nat, Reader f (pE f)
 | 0 => fun l _ _ _ _ _ h => absurd h (Nat.not_lt_zero _)
 | f + 1 => fun l td nm ni su R hl h => by
  cases l with
  | nil => exact mruns_fail (r := []) rfl h
  | cons y r =>
   rw [List.length_cons] at hl
   rw [pE] at h
   by_cases hy : y = sg [40]
   ·rw [if_pos hy] at h
    cases r with
    | nil =>
     rw [pIn, pE_nil] at h
     exact mruns_fail (r := []) (stepP_end hy) h
    | cons z q =>
     have h1 := reader_in (reader_pE f) (pE_le f) (pE_nil f) z q (by rw [List.length_cons] at hl; omega) h
     cases hz : restP z with
     | some ps =>
      rw [hz] at h1
      exact mruns_step (m := ⟨ps ++ td, nm, ni, su⟩) (r := q) (by rw [stepP_open hy, hz]) h1
     | none =>
      rw [hz] at h1
      exact mruns_step (m := ⟨.expr :: .tail :: td, nm, ni, su⟩) (r := z :: q) (by rw [stepP_open hy, hz]) h1
   ·rw [if_neg hy] at h
    cases he : pLeaf (y :: r) with
    | mk a q =>
     rw [he] at h
     cases a with
     | none => exact mruns_fail (r := q) (by rw [stepP_leaf hy, he]; rfl) h
     | some e => exact mruns_step (m := ⟨td, nm, ni, su ++ [e]⟩) (r := q) (by rw [stepP_leaf hy, he]; rfl) h
end
section
open Go Go.RowKit
def restK (s : RS) : List KT := (s.toks.drop s.at_).map kt
abbrev nfK (x : LTok) : Bool := nameT (kt x)
abbrev mfK (x : LTok) : Bool := numT (kt x)
abbrev nvK (x : LTok) : Int := numV x.text
def pvP : Pt → PV
 | .word s => pvW (bsL s)
 | .sign s => pvS (bsL s)
 | .name => pvO 3
 | .number => pvO 4
 | .expr => pvO 5
 | .tail => pvO 6
 | .join k op a b c => ⟨7, ⟨#[]⟩, k, op, a, b, c⟩
def encTd (l : List Pt) : List (List D) := l.reverse.map fun p => encPV (pvP p)
structure RelM (s : RS) (m : Mch) : Prop where
 td : Holds s.td (encTd m.todo)
 nm : Holds s.nm (m.nm.map encN)
 ni : Holds s.ni (m.ni.map encI)
 pt : Holds s.pt (encL m.su)
 at_ : s.at_ ≤ s.toks.length
theorem rest_cases (s : RS) : (s.toks[s.at_]? = none ∧ restK s = []) ∨ ∃ x, s.toks[s.at_]? = some x ∧ restK s = kt x :: restK (adv s 1) := by
 unfold restK
 by_cases h : s.at_ < s.toks.length
 ·right
  refine ⟨s.toks[s.at_], List.getElem?_eq_getElem h, ?_⟩
  rw [List.drop_eq_getElem_cons h]; rfl
 ·left
  refine ⟨List.getElem?_eq_none (by omega), ?_⟩
  rw [List.drop_eq_nil_of_le (by omega)]; rfl
theorem rest_len (s : RS) (h : s.at_ ≤ s.toks.length) : s.toks.length - (restK s).length = s.at_ := by
 unfold restK
 rw [List.length_map, List.length_drop]; omega
theorem adv_le {s : RS} {x : LTok} (h : s.toks[s.at_]? = some x) : (adv s 1).at_ ≤ (adv s 1).toks.length := by
 have := (List.getElem?_eq_some_iff.1 h).1
 exact this
theorem bsL_inj {a b : List UInt8} (h : bsL a = bsL b) : a = b := by
 have := congrArg (fun x : ByteArray => x.data.toList) h
 simpa using this
theorem kt_eq (x : LTok) (k : Int) (t : List UInt8) : (decide (x.kind = k) && decide ((⟨x.text.toArray⟩ : ByteArray) = bsL t)) = decide (kt x = (k, t)) := by
 rw [Bool.eq_iff_iff]
 simp only [Bool.and_eq_true, decide_eq_true_eq, kt, Prod.mk.injEq]
 exact and_congr Iff.rfl ⟨fun h => bsL_inj h, fun h => by rw [h]⟩
theorem isR_eq (s : RS) (k : Int) (t : List UInt8) : isR s k (bsL t) = match restK s with
  | y :: _ => decide (y = (k, t))
  | [] => false := by
 unfold isR
 rcases rest_cases s with ⟨h1, h2⟩ | ⟨x, h1, h2⟩
 ·rw [h1, h2]
 ·rw [h1, h2]; exact kt_eq x k t
abbrev pvA (n : Nat) : Value := .iface 102 (.agg #[.int .i64 n])
def StepPost (s : RS) (R : PR Mch) (o : Out) : Prop := match R with
 | (some m, r) => ∃ s' res, o = .ret res (rdL s') ∧ RelM s' m ∧ restK s' = r ∧ s'.toks = s.toks
 | (none, r) => o = .pan (pvA (s.toks.length - r.length))
theorem RelM.adv {s : RS} {m : Mch} {x : LTok} (h : RelM s m) (hx : s.toks[s.at_]? = some x) : RelM (adv s 1) m := ⟨h.td, h.nm, h.ni, h.pt, adv_le hx⟩
theorem pan_eq {s : RS} (h : s.at_ ≤ s.toks.length) : Out.pan (pvR s) = .pan (pvA (s.toks.length - (restK s).length)) := by rw [rest_len s h]
theorem eat_post {s : RS} {m : Mch} (h : RelM s m) (k : Int) (t : List UInt8) {o : Out} (ho : postExpect s k (bsL t) o) : StepPost s ((eatT (k, t) (restK s)).bind fun _ r => (some m, r)) o := by
 unfold postExpect at ho
 rw [isR_eq] at ho
 rcases rest_cases s with ⟨h1, h2⟩ | ⟨x, h1, h2⟩
 ·rw [h2] at ho ⊢
  simp only [Bool.false_eq_true, if_false] at ho
  rw [ho, pan_eq h.at_, h2]; rfl
 ·rw [h2] at ho ⊢
  simp only [decide_eq_true_eq] at ho
  rw [eatT]
  split at ho
  ·rename_i e
   rw [if_pos e]
   exact ⟨adv s 1, _, ho, h.adv h1, rfl, rfl⟩
  ·rename_i e
   rw [if_neg e]
   show o = .pan _
   rw [ho, pan_eq h.at_, h2]
theorem name_cases {s : RS} (hs : s.at_ ≤ s.toks.length) {o : Out} (ho : postName nfK s o) :
  (∃ x, s.toks[s.at_]? = some x ∧ o = .ret (.d (.raw (.string (bT x)))) (rdL (adv s 1)) ∧ pName (restK s) = (some (bT x), restK (adv s 1))) ∨ (o = .pan (pvA (s.toks.length - (restK s).length)) ∧ pName (restK s) = (none, restK s)) := by
 unfold postName at ho
 rcases rest_cases s with ⟨h1, h2⟩ | ⟨x, h1, h2⟩
 ·rw [h1] at ho
  right
  refine ⟨ho.trans (pan_eq hs), ?_⟩
  rw [h2]; rfl
 ·rw [h1] at ho
  simp only at ho
  split at ho
  ·rename_i hn
   left
   refine ⟨x, h1, ho, ?_⟩
   rw [h2, pName, if_pos hn]; rfl
  ·rename_i hn
   right
   refine ⟨ho.trans (pan_eq hs), ?_⟩
   rw [h2, pName, if_neg hn]
theorem num_cases {s : RS} (hs : s.at_ ≤ s.toks.length) {o : Out} (ho : postNum mfK nvK s o) :
  (∃ x, s.toks[s.at_]? = some x ∧ o = .ret (.d (.raw (.int .i64 (nvK x)))) (rdL (adv s 1)) ∧ pNum (restK s) = (some (nvK x), restK (adv s 1))) ∨ (o = .pan (pvA (s.toks.length - (restK s).length)) ∧ pNum (restK s) = (none, restK s)) := by
 unfold postNum at ho
 rcases rest_cases s with ⟨h1, h2⟩ | ⟨x, h1, h2⟩
 ·rw [h1] at ho
  right
  refine ⟨ho.trans (pan_eq hs), ?_⟩
  rw [h2]; rfl
 ·rw [h1] at ho
  simp only at ho
  split at ho
  ·rename_i hn
   left
   refine ⟨x, h1, ho, ?_⟩
   rw [h2, pNum, if_pos hn]; rfl
  ·rename_i hn
   right
   refine ⟨ho.trans (pan_eq hs), ?_⟩
   rw [h2, pNum, if_neg hn]
theorem encL_snoc (l : List Ex) (e : Ex) : encL (l ++ [e]) = encL l ++ [encE e] := by simp [encL_map]
theorem RelM.pushPt {s : RS} {m : Mch} (h : RelM s m) (e : Ex) : RelM (pushPt s e) { m with su := m.su ++ [e] } := ⟨h.td, h.nm, h.ni, by rw [encL_snoc]; exact h.pt.push _, h.at_⟩
theorem addTd_td (ps : List PV) : ∀ s : RS, (ps.foldl pushTd s) = { s with td := (ps.foldl pushTd s).td } := by
 induction ps with
 | nil => intro s; rfl
 | cons p ps ih =>
  intro s
  rw [List.foldl_cons, ih (pushTd s p)]
  rfl
theorem holds_push (ps : List PV) : ∀ (s : RS) (l : List (List D)), Holds s.td l → Holds (ps.foldl pushTd s).td (l ++ ps.map encPV) := by
 induction ps with
 | nil => intro s l h; simpa using h
 | cons p ps ih =>
  intro s l h
  rw [List.foldl_cons]
  have := ih (pushTd s p) (l ++ [encPV p]) (h.push _)
  simpa using this
theorem RelM.add {s : RS} {m : Mch} (h : RelM s m) (pts : List Pt) : RelM (addTd s (pts.map pvP)) { m with todo := pts ++ m.todo } ∧ restK (addTd s (pts.map pvP)) = restK s ∧ (addTd s (pts.map pvP)).toks = s.toks := by
 unfold addTd
 have h1 := holds_push (pts.map pvP).reverse s _ h.td
 rw [addTd_td]
 refine ⟨⟨?_, h.nm, h.ni, h.pt, h.at_⟩, rfl, rfl⟩
 have e : encTd (pts ++ m.todo) = encTd m.todo ++ List.map encPV (List.map pvP pts).reverse := by
  unfold encTd
  rw [List.reverse_append, List.map_append, ← List.map_reverse, List.map_map]; rfl
 rw [e]
 exact h1
theorem restOf_eq (z : LTok) : (restP (kt z)).map (·.map pvP) = if z.kind = 1 then restOf (bT z) else none := by
 have hw : ∀ t : List UInt8, kt z = wd t ↔ z.kind = 1 ∧ bT z = bsL t := fun t => by
  unfold kt wd
  rw [Prod.mk.injEq]
  exact and_congr Iff.rfl ⟨fun h => by unfold bT; rw [h], fun h => bsL_inj h⟩
 unfold restP restOf
 by_cases hk : z.kind = 1
 ·rw [if_pos hk]
  simp only [hw, hk, true_and]
  show _ = if bT z = bsL wFun then _ else if bT z = bsL wLet then _ else if bT z = bsL wIf then _ else if bT z = bsL wCase then _ else if bT z = bsL wChance then _ else if bT z = bsL wConflict then _ else _
  repeat' split
  all_goals rfl
 ·rw [if_neg hk]
  simp only [hw, hk, false_and, if_false]; rfl
theorem tailOf_eq (z : LTok) : ∃ j, (tailP (kt z)).1 = [.expr, .sign [41], j] ∧ pvP j = (tailOf z.kind (bT z)).1 ∧ (tailP (kt z)).2 = (tailOf z.kind (bT z)).2 := by
 unfold tailP tailOf
 by_cases hk : z.kind = 4
 ·rw [if_pos hk]
  have ho : opT (kt z) = decide (bT z = ⟨#[43]⟩ ∨ bT z = ⟨#[45]⟩ ∨ bT z = ⟨#[42]⟩ ∨ bT z = ⟨#[61]⟩ ∨ bT z = ⟨#[60]⟩) := by
   unfold opT
   rw [show (kt z).1 = 4 from hk]
   show (true && hasB opNames (bT z)) = _
   rw [Bool.true_and, Bool.eq_iff_iff, decide_eq_true_eq]
   unfold hasB opNames
   simp only [List.any_cons, List.any_nil, Bool.or_false, Bool.or_eq_true, decide_eq_true_eq]
   exact ⟨fun h => by rcases h with h | h | h | h | h <;> simp [← h], fun h => by rcases h with h | h | h | h | h <;> simp [h]⟩
  rw [ho]
  by_cases h1 : bT z = ⟨#[43]⟩ ∨ bT z = ⟨#[45]⟩ ∨ bT z = ⟨#[42]⟩ ∨ bT z = ⟨#[61]⟩ ∨ bT z = ⟨#[60]⟩
  ·rw [if_pos h1, if_pos (decide_eq_true h1)]
   exact ⟨_, rfl, rfl, rfl⟩
  ·rw [if_neg h1, if_neg (by rw [decide_eq_false h1]; decide)]
   by_cases h2 : bT z = bsL [58, 58]
   ·have : kt z = sg [58, 58] := Prod.ext hk (bsL_inj h2)
    rw [if_pos this, if_pos (show bT z = ⟨#[58, 58]⟩ from h2)]
    exact ⟨_, rfl, rfl, rfl⟩
   ·have : ¬ kt z = sg [58, 58] := fun e => h2 (by unfold bT; rw [show z.text = [58, 58] from congrArg Prod.snd e])
    rw [if_neg this, if_neg (show ¬ bT z = ⟨#[58, 58]⟩ from h2)]
    exact ⟨_, rfl, rfl, rfl⟩
 ·rw [if_neg hk]
  have ho : opT (kt z) = false := by
   unfold opT
   rw [decide_eq_false (show ¬ (kt z).1 = 4 from hk)]; rfl
  rw [ho]
  have : ¬ kt z = sg [58, 58] := fun e => hk (congrArg Prod.fst e)
  rw [if_neg this]
  exact ⟨_, rfl, rfl, rfl⟩
theorem tail_post {s : RS} {m : Mch} (h : RelM s m) {o : Out} (ho : postTail s o) : StepPost s (stepP .tail m (restK s)) o := by
 unfold postTail at ho
 rcases rest_cases s with ⟨h1, h2⟩ | ⟨x, h1, h2⟩
 ·rw [h1] at ho
  rw [h2]
  show o = .pan _
  rw [ho, pan_eq h.at_, h2]
 ·rw [h1] at ho
  rw [h2]
  obtain ⟨j, e1, e2, e3⟩ := tailOf_eq x
  simp only [stepP]
  rw [e1, e3]
  have hst : RelM (tailS s x) m ∧ restK (tailS s x) = (if (tailOf x.kind (bT x)).2 = true then restK (adv s 1) else kt x :: restK (adv s 1)) ∧ (tailS s x).toks = s.toks := by
   unfold tailS
   by_cases hb : (tailOf x.kind (bT x)).2 = true
   ·rw [if_pos hb, if_pos hb]; exact ⟨h.adv h1, rfl, rfl⟩
   ·rw [if_neg hb, if_neg hb]; exact ⟨h, h2, rfl⟩
  obtain ⟨h3, h4, h5⟩ := hst
  obtain ⟨h6, h7, h8⟩ := h3.add [.expr, .sign [41], j]
  rw [List.map_cons, List.map_cons, List.map_cons, List.map_nil, e2] at h6 h7 h8
  exact ⟨_, _, ho, h6, h7.trans h4, h8.trans h5⟩
theorem dot_post {s : RS} {m : Mch} (h : RelM s m) (n : ByteArray) {o : Out} (ho : postDot nfK s n o) : StepPost s ((pDot n (restK s)).bind fun e r => (some { m with su := m.su ++ [e] }, r)) o := by
 unfold postDot at ho
 rw [show (⟨#[46]⟩ : ByteArray) = bsL [46] from rfl, isR_eq] at ho
 rcases rest_cases s with ⟨h1, h2⟩ | ⟨x, h1, h2⟩
 ·rw [h2] at ho ⊢
  simp only [Bool.false_eq_true, if_false] at ho
  exact ⟨_, _, ho, h.pushPt _, h2, rfl⟩
 ·rw [h2] at ho ⊢
  simp only [decide_eq_true_eq] at ho
  rw [pDot]
  by_cases e : kt x = (4, [46])
  ·rw [if_pos e] at ho
   rw [if_pos (show kt x = sg [46] from e)]
   have h4 := h.adv h1
   rcases rest_cases (adv s 1) with ⟨h5, h6⟩ | ⟨y, h5, h6⟩
   ·rw [show s.toks[s.at_ + 1]? = none from h5] at ho
    rw [h6]
    show o = .pan _
    rw [ho, pan_eq h4.at_, h6]; rfl
   ·rw [show s.toks[s.at_ + 1]? = some y from h5] at ho
    rw [h6]
    simp only at ho
    rw [pName]
    by_cases hn : nfK y = true
    ·rw [if_pos hn] at ho ⊢
     exact ⟨_, _, ho, (h4.adv h5).pushPt _, rfl, rfl⟩
    ·rw [if_neg hn] at ho ⊢
     show o = .pan _
     rw [ho, pan_eq h4.at_, h6]; rfl
  ·rw [if_neg e] at ho
   rw [if_neg (show ¬ kt x = sg [46] from e)]
   exact ⟨_, _, ho, h.pushPt _, h2, rfl⟩
theorem start_post {s : RS} {m : Mch} (h : RelM s m) {o : Out} (ho : postStart nfK mfK nvK s o) : StepPost s (stepP .expr m (restK s)) o := by
 unfold postStart at ho
 rcases rest_cases s with ⟨h1, h2⟩ | ⟨x, h1, h2⟩
 ·rw [h1] at ho
  rw [h2]
  show o = .pan _
  rw [ho, pan_eq h.at_, h2]
 ·rw [h1] at ho
  have hisr : ∀ k t, isR s k (bsL t) = decide (kt x = (k, t)) := fun k t => by rw [isR_eq, h2]
  simp only [show (⟨#[116, 114, 117, 101]⟩ : ByteArray) = bsL wTrue from rfl, show (⟨#[102, 97, 108, 115, 101]⟩ : ByteArray) = bsL wFalse from rfl, show (⟨#[110, 105, 108]⟩ : ByteArray) = bsL wNil from rfl, show (⟨#[40]⟩ : ByteArray) = bsL [40] from rfl, hisr, decide_eq_true_eq] at ho
  have h3 := h.adv h1
  by_cases hp : kt x = sg [40]
  ·have e1 : ¬ mfK x = true := fun e => by
    have : (kt x).1 = 3 := by
     unfold mfK numT at e; simp only [Bool.and_eq_true, decide_eq_true_eq] at e; exact e.1
    rw [hp] at this; cases this
   have e2 : ¬ nfK x = true := fun e => by
    have : (kt x).1 = 1 := by
     unfold nfK nameT at e; simp only [Bool.and_eq_true, decide_eq_true_eq] at e; exact e.1
    rw [hp] at this; cases this
   have e3 : ∀ t, ¬ kt x = (1, t) := fun t e => by rw [hp] at e; cases e
   rw [if_neg e1, if_neg (e3 _), if_neg (e3 _), if_neg (e3 _), if_neg e2, if_pos (show kt x = (4, [40]) from hp)] at ho
   unfold postBracket at ho
   rw [h2]
   rcases rest_cases (adv s 1) with ⟨h5, h6⟩ | ⟨z, h5, h6⟩
   ·rw [h5] at ho
    rw [h6, stepP_end hp]
    show o = .pan _
    rw [ho, pan_eq h3.at_, h6]; rfl
   ·rw [h5] at ho
    rw [h6, stepP_open hp]
    have hre := restOf_eq z
    by_cases hk : z.kind = 1
    ·rw [if_pos hk] at hre
     simp only [hk, if_true] at ho
     cases hr : restP (kt z) with
     | some pts =>
      rw [hr] at hre
      simp only [Option.map_some] at hre
      rw [show restOf (⟨z.text.toArray⟩ : ByteArray) = some (pts.map pvP) from hre.symm] at ho
      obtain ⟨h7, h8, h9⟩ := (h3.adv h5).add pts
      exact ⟨_, _, ho, h7, h8, h9⟩
     | none =>
      rw [hr] at hre
      simp only [Option.map_none] at hre
      rw [show restOf (⟨z.text.toArray⟩ : ByteArray) = none from hre.symm] at ho
      obtain ⟨h7, h8, h9⟩ := h3.add [.expr, .tail]
      exact ⟨_, _, ho, h7, h8.trans h6, h9⟩
    ·rw [if_neg hk] at hre
     simp only [hk, if_false] at ho
     have hr : restP (kt z) = none := by
      cases hr : restP (kt z) with
      | none => rfl
      | some v => rw [hr] at hre; cases hre
     rw [hr]
     obtain ⟨h7, h8, h9⟩ := h3.add [.expr, .tail]
     exact ⟨_, _, ho, h7, h8.trans h6, h9⟩
  ·rw [h2, stepP_leaf hp, pLeaf]
   by_cases e1 : mfK x = true
   ·rw [if_pos e1] at ho
    rw [if_pos (show numT (kt x) = true from e1)]
    exact ⟨_, _, ho, h3.pushPt _, rfl, rfl⟩
   rw [if_neg e1] at ho
   rw [if_neg (show ¬ numT (kt x) = true from e1)]
   by_cases e2 : kt x = (1, wTrue)
   ·rw [if_pos e2] at ho
    rw [if_pos (show kt x = wd wTrue from e2)]
    exact ⟨_, _, ho, h3.pushPt _, rfl, rfl⟩
   rw [if_neg e2] at ho
   rw [if_neg (show ¬ kt x = wd wTrue from e2)]
   by_cases e3 : kt x = (1, wFalse)
   ·rw [if_pos e3] at ho
    rw [if_pos (show kt x = wd wFalse from e3)]
    exact ⟨_, _, ho, h3.pushPt _, rfl, rfl⟩
   rw [if_neg e3] at ho
   rw [if_neg (show ¬ kt x = wd wFalse from e3)]
   by_cases e4 : kt x = (1, wNil)
   ·rw [if_pos e4] at ho
    rw [if_pos (show kt x = wd wNil from e4)]
    exact ⟨_, _, ho, h3.pushPt _, rfl, rfl⟩
   rw [if_neg e4] at ho
   rw [if_neg (show ¬ kt x = wd wNil from e4)]
   by_cases e5 : nfK x = true
   ·rw [if_pos e5] at ho
    rw [if_pos (show nameT (kt x) = true from e5)]
    exact dot_post h3 _ ho
   rw [if_neg e5, if_neg (show ¬ kt x = (4, [40]) from hp)] at ho
   rw [if_neg (show ¬ nameT (kt x) = true from e5)]
   show o = .pan _
   rw [ho, pan_eq h.at_, h2]
end
section
open Go Go.RowKit
def okJ (a b c : Nat) : Prop := (a = 1 ∧ b = 0 ∧ c = 1) ∨ (a = 1 ∧ b = 0 ∧ c = 2) ∨ (a = 0 ∧ b = 0 ∧ c = 3) ∨ (a = 2 ∧ b = 0 ∧ c = 3) ∨ (a = 0 ∧ b = 2 ∧ c = 0) ∨ (a = 0 ∧ b = 0 ∧ c = 2)
def WFt : List Pt → Nat → Nat → Nat → Prop
 | [], _, _, _ => True
 | .word _ :: ps, a, b, c => WFt ps a b c
 | .sign _ :: ps, a, b, c => WFt ps a b c
 | .name :: ps, a, b, c => WFt ps (a + 1) b c
 | .number :: ps, a, b, c => WFt ps a (b + 1) c
 | .expr :: ps, a, b, c => WFt ps a b (c + 1)
 | .tail :: ps, a, b, c => 1 ≤ c ∧ WFt ps a b c
 | .join _ _ a' b' c' :: ps, a, b, c => okJ a' b' c' ∧ a' ≤ a ∧ b' ≤ b ∧ c' ≤ c ∧ WFt ps (a - a') (b - b') (c - c' + 1)
def wP : Pt → Nat
 | .tail => 3
 | _ => 1
def wPts : List Pt → Nat
 | [] => 0
 | p :: ps => wP p + wPts ps
theorem wPts_len : ∀ ps : List Pt, ps.length ≤ wPts ps
 | [] => Nat.le_refl _
 | p :: ps => by
  have := wPts_len ps
  have h1 : 1 ≤ wP p := by cases p <;> simp [wP]
  simp only [wPts, List.length_cons]; omega
theorem wPts_append : ∀ a b : List Pt, wPts (a ++ b) = wPts a + wPts b
 | [], b => by simp [wPts]
 | p :: a, b => by
  rw [List.cons_append, wPts, wPts, wPts_append a b]; omega
def bdM (m : Mch) (l : List KT) : Nat := 16 * l.length + wPts m.todo + m.nm.length + m.ni.length + m.su.length
theorem restP_wf {z : KT} {pts : List Pt} (h : restP z = some pts) (ps : List Pt) (a b c : Nat) (hw : WFt ps a b (c + 1)) : WFt (pts ++ ps) a b c ∧ wPts pts ≤ 13 := by
 unfold restP at h
 repeat' split at h
 all_goals first | (cases h; done) | skip
 all_goals (cases h; simp only [List.cons_append, List.nil_append, WFt, wPts, wP, okJ])
 all_goals (refine ⟨⟨by simp, by omega, by omega, by omega, ?_⟩, by omega⟩)
 all_goals (simpa using hw)
theorem pName_len {l r : List KT} {n : ByteArray} (h : pName l = (some n, r)) : l.length = r.length + 1 := by
 cases l with
 | nil => cases h
 | cons y q =>
  rw [pName] at h
  split at h
  ·cases h; rfl
  ·cases h
theorem pNum_len {l r : List KT} {n : Int} (h : pNum l = (some n, r)) : l.length = r.length + 1 := by
 cases l with
 | nil => cases h
 | cons y q =>
  rw [pNum] at h
  split at h
  ·cases h; rfl
  ·cases h
theorem eatT_len {x : KT} {l r : List KT} {u : Unit} (h : eatT x l = (some u, r)) : l.length = r.length + 1 := by
 cases l with
 | nil => cases h
 | cons y q =>
  rw [eatT] at h
  split at h
  ·cases h; rfl
  ·cases h
theorem pDot_len {n : ByteArray} {l r : List KT} {e : Ex} (h : pDot n l = (some e, r)) : r.length ≤ l.length := by
 have := pDot_le n l; rw [h] at this; exact this
theorem pLeaf_len {l r : List KT} {e : Ex} (h : pLeaf l = (some e, r)) : r.length + 1 ≤ l.length := by
 cases l with
 | nil => cases h
 | cons y q =>
  rw [pLeaf] at h
  rw [List.length_cons]
  repeat' split at h
  all_goals first | (cases h; done) | (cases h; exact Nat.le_refl _) | (have := pDot_len h; omega)
theorem bind_some_eq {α β : Type} {x : PR α} {f : α → List KT → PR β} {b : β} {r : List KT} (h : x.bind f = (some b, r)) : ∃ a q, x = (some a, q) ∧ f a q = (some b, r) := by
 obtain ⟨a, q⟩ := x
 cases a with
 | none => cases h
 | some a => exact ⟨a, q, rfl, h⟩
theorem step_ok {p : Pt} {ps : List Pt} {nm : List ByteArray} {ni : List Int} {su : List Ex} {l r : List KT} {m : Mch} (h : stepP p ⟨ps, nm, ni, su⟩ l = (some m, r)) (hw : WFt (p :: ps) nm.length ni.length su.length) :
  WFt m.todo m.nm.length m.ni.length m.su.length ∧ bdM m r ≤ bdM ⟨p :: ps, nm, ni, su⟩ l := by
 cases p with
 | word s =>
  obtain ⟨u, q, h1, h2⟩ := bind_some_eq h
  cases h2
  have := eatT_len h1
  exact ⟨hw, by simp only [bdM, wPts, wP]; omega⟩
 | sign s =>
  obtain ⟨u, q, h1, h2⟩ := bind_some_eq h
  cases h2
  have := eatT_len h1
  exact ⟨hw, by simp only [bdM, wPts, wP]; omega⟩
 | name =>
  obtain ⟨u, q, h1, h2⟩ := bind_some_eq h
  cases h2
  have := pName_len h1
  refine ⟨by simpa [WFt] using hw, by simp only [bdM, wPts, wP, List.length_append, List.length_singleton]; omega⟩
 | number =>
  obtain ⟨u, q, h1, h2⟩ := bind_some_eq h
  cases h2
  have := pNum_len h1
  refine ⟨by simpa [WFt] using hw, by simp only [bdM, wPts, wP, List.length_append, List.length_singleton]; omega⟩
 | tail =>
  obtain ⟨hc, hw⟩ := hw
  cases l with
  | nil => cases h
  | cons z q =>
   simp only [stepP, Prod.mk.injEq, Option.some.injEq] at h
   obtain ⟨rfl, rfl⟩ := h
   have ht : ∃ k op, (tailP z).1 = [.expr, .sign [41], .join k op 0 0 2] := by
    unfold tailP
    repeat' split
    all_goals exact ⟨_, _, rfl⟩
   obtain ⟨k, op, e⟩ := ht
   have hl : (if (tailP z).2 = true then q else z :: q).length ≤ q.length + 1 := by
    split <;> simp
   rw [e]
   refine ⟨?_, ?_⟩
   ·simp only [List.cons_append, List.nil_append, WFt, okJ]
    refine ⟨by simp, by omega, by omega, by omega, ?_⟩
    rw [Nat.sub_zero, Nat.sub_zero, show su.length + 1 - 2 + 1 = su.length by omega]
    exact hw
   ·simp only [bdM, List.cons_append, List.nil_append, wPts, wP, List.length_cons]
    omega
 | join k op a b c =>
  obtain ⟨hj, h1, h2, h3, h4⟩ := hw
  simp only [stepP, Prod.mk.injEq, Option.some.injEq] at h
  obtain ⟨rfl, rfl⟩ := h
  refine ⟨?_, ?_⟩
  ·simp only [List.length_take, List.length_append, List.length_singleton]
   rw [Nat.min_eq_left (by omega), Nat.min_eq_left (by omega), Nat.min_eq_left (by omega)]
   exact h4
  ·simp only [bdM, wPts, wP, List.length_take, List.length_append, List.length_singleton]
   omega
 | expr =>
  have hw' : WFt ps nm.length ni.length (su.length + 1) := hw
  cases l with
  | nil => cases h
  | cons y q =>
   by_cases hy : y = sg [40]
   ·cases q with
    | nil => rw [stepP_end hy] at h; cases h
    | cons z q =>
     rw [stepP_open hy] at h
     cases hr : restP z with
     | some pts =>
      rw [hr] at h
      simp only [Prod.mk.injEq, Option.some.injEq] at h
      obtain ⟨rfl, rfl⟩ := h
      obtain ⟨h1, h2⟩ := restP_wf hr ps nm.length ni.length su.length hw'
      refine ⟨h1, ?_⟩
      simp only [bdM, wPts, wP, wPts_append, List.length_cons]
      omega
     | none =>
      rw [hr] at h
      simp only [Prod.mk.injEq, Option.some.injEq] at h
      obtain ⟨rfl, rfl⟩ := h
      refine ⟨by simp only [WFt]; exact ⟨by omega, hw'⟩, ?_⟩
      simp only [bdM, wPts, wP, List.length_cons]
      omega
   ·rw [stepP_leaf hy] at h
    obtain ⟨e, q', h1, h2⟩ := bind_some_eq h
    cases h2
    have := pLeaf_len h1
    refine ⟨by simpa using hw', ?_⟩
    simp only [bdM, wPts, wP, List.length_append, List.length_singleton]
    omega
end
section
open Go Go.RowKit
theorem MRun.inv {n : Nat} {p : Pt} {ps : List Pt} {nm : List ByteArray} {ni : List Int} {su : List Ex} {l : List KT} {R : PR Mch} (h : MRun n ⟨p :: ps, nm, ni, su⟩ l R) :
  (∀ r, stepP p ⟨ps, nm, ni, su⟩ l = (none, r) → R = (none, r)) ∧ (∀ m' r, stepP p ⟨ps, nm, ni, su⟩ l = (some m', r) → ∃ n', n' < n ∧ MRun n' m' r R) := by
 cases h with
 | done m l h => cases h
 | fail p ps nm ni su l r h =>
  rw [h]
  exact ⟨fun r' e => (by cases e; rfl), fun m' r' e => by cases e⟩
 | step n p ps nm ni su l r m' R h h' =>
  rw [h]
  exact ⟨fun r' e => (by cases e), fun m2 r' e => by cases e; exact ⟨n, Nat.lt_succ_self n, h'⟩⟩
theorem MRun.inv0 {n : Nat} {m : Mch} {l : List KT} {R : PR Mch} (h : MRun n m l R) (hm : m.todo = []) : R = (some m, l) := by
 cases h with
 | done m l h => rfl
 | fail p ps nm ni su l r h => cases hm
 | step n p ps nm ni su l r m' R h h' => cases hm
def InvX (s : RS) (R : PR Mch) (n : Nat) (s1 : RS) : Prop := ∃ m, MRun n m (restK s1) R ∧ RelM s1 m ∧ WFt m.todo m.nm.length m.ni.length m.su.length ∧ bdM m (restK s1) ≤ 16777217 ∧ s1.toks = s.toks
def Round (s : RS) (R : PR Mch) (n : Nat) (o : Out) : Prop := (∃ s' res, o = .ret res (rdL s') ∧ ∃ n', n' < n ∧ InvX s R n' s') ∨ ∃ r, o = .pan (pvA (s.toks.length - r.length)) ∧ R = (none, r)
theorem round_of {s s1 s2 : RS} {R : PR Mch} {n : Nat} {p : Pt} {ps : List Pt} {nm : List ByteArray} {ni : List Int} {su : List Ex} (h : MRun n ⟨p :: ps, nm, ni, su⟩ (restK s1) R) (hw : WFt (p :: ps) nm.length ni.length su.length) (hb : bdM ⟨p :: ps, nm, ni, su⟩ (restK s1) ≤ 16777217) (ht : s2.toks = s.toks) (hr : restK s2 = restK s1) {o : Out} (ho : StepPost s2 (stepP p ⟨ps, nm, ni, su⟩ (restK s2)) o) : Round s R n o := by
 rw [hr] at ho
 obtain ⟨h1, h2⟩ := h.inv
 unfold StepPost at ho
 cases hs : stepP p ⟨ps, nm, ni, su⟩ (restK s1) with
 | mk a r =>
  rw [hs] at ho
  cases a with
  | none => exact .inr ⟨r, by rw [← ht]; exact ho, h1 r hs⟩
  | some m =>
   obtain ⟨s', res, e1, e2, e3, e4⟩ := ho
   obtain ⟨n', e5, e6⟩ := h2 m r hs
   obtain ⟨e7, e8⟩ := step_ok hs hw
   exact .inl ⟨s', res, e1, n', e5, m, by rw [e3]; exact e6, e2, e7, by rw [e3]; omega, e4.trans ht⟩
theorem Round.ret {s : RS} {R : PR Mch} {n : Nat} {res : AV} {L : Lent} (h : Round s R n (.ret res L)) : ∃ s', L = rdL s' ∧ ∃ n', n' < n ∧ InvX s R n' s' := by
 rcases h with ⟨s', r, e, h⟩ | ⟨r, e, h⟩
 ·cases e; exact ⟨s', rfl, h⟩
 ·cases e
theorem Round.pan {s : RS} {R : PR Mch} {n : Nat} {v : Value} (h : Round s R n (.pan v)) : ∃ r, v = pvA (s.toks.length - r.length) ∧ R = (none, r) := by
 rcases h with ⟨s', r, e, h⟩ | ⟨r, e, h⟩
 ·cases e
 ·cases e; exact ⟨r, rfl, h⟩
def pushNm (s : RS) (n : ByteArray) : RS := { s with nm := s.nm.push (encN n) }
def pushNi (s : RS) (n : Int) : RS := { s with ni := s.ni.push (encI n) }
theorem RelM.pushNm {s : RS} {m : Mch} (h : RelM s m) (n : ByteArray) : RelM (pushNm s n) { m with nm := m.nm ++ [n] } := ⟨h.td, by simp only [Go.Proofs.YtnnolijagpakiaaGreatDoor.pushNm, List.map_append, List.map_cons, List.map_nil]; exact h.nm.push _, h.ni, h.pt, h.at_⟩
theorem RelM.pushNi {s : RS} {m : Mch} (h : RelM s m) (n : Int) : RelM (pushNi s n) { m with ni := m.ni ++ [n] } := ⟨h.td, h.nm, by simp only [Go.Proofs.YtnnolijagpakiaaGreatDoor.pushNi, List.map_append, List.map_cons, List.map_nil]; exact h.ni.push _, h.pt, h.at_⟩
theorem keep_name {s : RS} {m : Mch} (h : RelM s m) {o : Out} (ho : postName nfK s o) : (∃ x, o = .ret (.d (.raw (.string (bT x)))) (rdL (adv s 1)) ∧ StepPost s (stepP .name m (restK s)) (.ret (.tup []) (rdL (pushNm (adv s 1) (bT x))))) ∨ ∃ v, o = .pan v ∧ StepPost s (stepP .name m (restK s)) (.pan v) := by
 rcases name_cases h.at_ ho with ⟨x, h1, h2, h3⟩ | ⟨h1, h2⟩
 ·refine .inl ⟨x, h2, ?_⟩
  simp only [stepP, h3]
  exact ⟨_, _, rfl, (h.adv h1).pushNm _, rfl, rfl⟩
 ·refine .inr ⟨_, h1, ?_⟩
  simp only [stepP, h2]
  rfl
theorem keep_num {s : RS} {m : Mch} (h : RelM s m) {o : Out} (ho : postNum mfK nvK s o) : (∃ x, o = .ret (.d (.raw (.int .i64 (nvK x)))) (rdL (adv s 1)) ∧ StepPost s (stepP .number m (restK s)) (.ret (.tup []) (rdL (pushNi (adv s 1) (nvK x))))) ∨ ∃ v, o = .pan v ∧ StepPost s (stepP .number m (restK s)) (.pan v) := by
 rcases num_cases h.at_ ho with ⟨x, h1, h2, h3⟩ | ⟨h1, h2⟩
 ·refine .inl ⟨x, h2, ?_⟩
  simp only [stepP, h3]
  exact ⟨_, _, rfl, (h.adv h1).pushNi _, rfl, rfl⟩
 ·refine .inr ⟨_, h1, ?_⟩
  simp only [stepP, h2]
  rfl
theorem build_j {s : RS} {k : Int} {op : ByteArray} {a b c : Nat} {m : Mch} (hj : okJ a b c) (h : RelM s m) (ha : a ≤ m.nm.length) (hb : b ≤ m.ni.length) (hc : c ≤ m.su.length) (hf : m.nm.length + m.ni.length + m.su.length ≤ 1073741824) :
  ConL Tryz.prog 82 [.box 901 0, .agg ((encPV (pvP (.join k op a b c))).map .d)] (rdL s) (fun o => o = .ret (.tup []) (rdL (builtS s k op a b c m.nm m.ni m.su))) := by
 have hs : Stks s m.nm m.ni m.su := ⟨h.nm, h.ni, h.pt, hf⟩
 rcases hj with ⟨rfl, rfl, rfl⟩ | ⟨rfl, rfl, rfl⟩ | ⟨rfl, rfl, rfl⟩ | ⟨rfl, rfl, rfl⟩ | ⟨rfl, rfl, rfl⟩ | ⟨rfl, rfl, rfl⟩
 ·exact build_101 s k op _ _ _ hs ha hc
 ·exact build_102 s k op _ _ _ hs ha hc
 ·exact build_003 s k op _ _ _ hs hc
 ·exact build_203 s k op _ _ _ hs ha hc
 ·exact build_020 s k op _ _ _ hs hb
 ·exact build_002 s k op _ _ _ hs hc
theorem join_post {s : RS} {k : Int} {op : ByteArray} {a b c : Nat} {m : Mch} (h : RelM s m) : StepPost s (stepP (.join k op a b c) m (restK s)) (.ret (.tup []) (rdL (builtS s k op a b c m.nm m.ni m.su))) := by
 have hnl := h.nm.len
 have hil := h.ni.len
 have hpl := h.pt.len
 rw [List.length_map] at hnl hil
 rw [encL_length] at hpl
 refine ⟨builtS s k op a b c m.nm m.ni m.su, _, rfl, ⟨h.td, ?_, ?_, ?_, h.at_⟩, rfl, rfl⟩
 ·simp only [builtS]
  have := h.nm.cut (n := s.nm.len - a) (by rw [List.length_map]; omega)
  rw [← List.map_take] at this
  rw [hnl] at this ⊢
  exact this
 ·simp only [builtS]
  have := h.ni.cut (n := s.ni.len - b) (by rw [List.length_map]; omega)
  rw [← List.map_take] at this
  rw [hil] at this ⊢
  exact this
 ·simp only [builtS]
  rw [encL_snoc]
  have := h.pt.cut (n := s.pt.len - c) (by rw [encL_length]; omega)
  rw [encL_map, ← List.map_take, ← encL_map] at this
  rw [hpl] at this ⊢
  exact this.push _
theorem bd_few {m : Mch} {l : List KT} (h : bdM m l ≤ 16777217) : m.todo.length + m.nm.length + m.ni.length + m.su.length ≤ 16777217 := by
 have := wPts_len m.todo
 unfold bdM at h
 omega
end
section
open Go Go.RowKit
structure Empty (s : RS) : Prop where
 td : Holds s.td []
 nm : Holds s.nm []
 ni : Holds s.ni []
 pt : Holds s.pt []
structure Rdy (s : RS) (t : List LTok) : Prop where
 toks : s.toks = t
 at_ : s.at_ ≤ t.length
 few : t.length ≤ 1048576
 em : Empty s
def PostR {α : Type} (t : List LTok) (x : PR α) (enc : α → AV) (o : Out) : Prop := match x with
 | (some a, r) => ∃ s', o = .ret (enc a) (rdL s') ∧ Rdy s' t ∧ restK s' = r
 | (none, r) => o = .pan (pvA (t.length - r.length))
theorem PostR.ret {α : Type} {t : List LTok} {x : PR α} {enc : α → AV} {v : AV} {L : Lent} (h : PostR t x enc (.ret v L)) : ∃ a s', x = (some a, restK s') ∧ v = enc a ∧ L = rdL s' ∧ Rdy s' t := by
 obtain ⟨a, r⟩ := x
 cases a with
 | none => cases h
 | some a =>
  obtain ⟨s', e, h1, h2⟩ := h
  cases e
  exact ⟨a, s', by rw [h2], rfl, rfl, h1⟩
theorem PostR.pan {α : Type} {t : List LTok} {x : PR α} {enc : α → AV} {v : Value} (h : PostR t x enc (.pan v)) : ∃ r, x = (none, r) ∧ v = pvA (t.length - r.length) := by
 obtain ⟨a, r⟩ := x
 cases a with
 | none => cases h; exact ⟨r, rfl, rfl⟩
 | some a =>
  obtain ⟨s', e, _⟩ := h
  cases e
variable {s : RS} {t : List LTok}
theorem Rdy.pos (h : Rdy s t) : t.length - (restK s).length = s.at_ := by
 rw [← h.toks]
 exact rest_len s (by rw [h.toks]; exact h.at_)
theorem Rdy.le (h : Rdy s t) : s.at_ ≤ s.toks.length := by rw [h.toks]; exact h.at_
theorem Rdy.few' (h : Rdy s t) : s.toks.length ≤ 1048576 := by rw [h.toks]; exact h.few
theorem Rdy.pvR (h : Rdy s t) : pvR s = pvA (t.length - (restK s).length) := by rw [h.pos]
theorem Rdy.adv (h : Rdy s t) {x : LTok} (hx : s.toks[s.at_]? = some x) : Rdy (adv s 1) t := ⟨h.toks, by have := adv_le hx; rw [← h.toks]; exact this, h.few, ⟨h.em.td, h.em.nm, h.em.ni, h.em.pt⟩⟩
theorem Rdy.cases (h : Rdy s t) : (s.toks[s.at_]? = none ∧ restK s = []) ∨ ∃ x, s.toks[s.at_]? = some x ∧ restK s = kt x :: restK (Go.Proofs.YtnnolijagpakiaaGreatDoor.adv s 1) ∧ Rdy (Go.Proofs.YtnnolijagpakiaaGreatDoor.adv s 1) t := by
 rcases rest_cases s with h1 | ⟨x, h1, h2⟩
 ·exact .inl h1
 ·exact .inr ⟨x, h1, h2, h.adv h1⟩
theorem isR_head (s : RS) (k : Int) (w : List UInt8) : isR s k (bsL w) = decide ((restK s).head? = some (k, w)) := by
 rw [isR_eq]
 cases restK s with
 | nil => rfl
 | cons y r => simp
theorem Rdy.is_t (h : Rdy s t) {k : Int} {w : List UInt8} (hi : isR s k (bsL w) = true) : ∃ x, s.toks[s.at_]? = some x ∧ restK s = (k, w) :: restK (Go.Proofs.YtnnolijagpakiaaGreatDoor.adv s 1) ∧ Rdy (Go.Proofs.YtnnolijagpakiaaGreatDoor.adv s 1) t := by
 rw [isR_head, decide_eq_true_eq] at hi
 rcases h.cases with ⟨_, h2⟩ | ⟨x, h1, h2, h3⟩
 ·rw [h2] at hi; cases hi
 ·rw [h2] at hi
  cases hi
  exact ⟨x, h1, h2, h3⟩
theorem is_f {k : Int} {w : List UInt8} (hi : isR s k (bsL w) = false) : (restK s).head? ≠ some (k, w) := by
 rw [isR_head, decide_eq_false_iff_not] at hi
 exact hi
theorem Rdy.expect (h : Rdy s t) (k : Int) (w : List UInt8) {o : Out} (ho : postExpect s k (bsL w) o) : PostR t (eatT (k, w) (restK s)) (fun _ => .tup []) o := by
 unfold postExpect at ho
 rw [isR_eq] at ho
 rcases h.cases with ⟨h1, h2⟩ | ⟨x, h1, h2, h3⟩
 ·rw [h2] at ho ⊢
  simp only [Bool.false_eq_true, if_false] at ho
  rw [ho, h.pvR, h2]; rfl
 ·rw [h2] at ho ⊢
  simp only [decide_eq_true_eq] at ho
  rw [eatT]
  split at ho
  ·rename_i e
   rw [if_pos e]
   exact ⟨_, ho, h3, rfl⟩
  ·rename_i e
   rw [if_neg e]
   show o = .pan _
   rw [ho, h.pvR, h2]
abbrev avB (n : ByteArray) : AV := .d (.raw (.string n))
abbrev avI (n : Int) : AV := .d (.raw (.int .i64 n))
theorem Rdy.name (h : Rdy s t) {o : Out} (ho : postName nfK s o) : PostR t (pName (restK s)) avB o := by
 rcases name_cases h.le ho with ⟨x, h1, h2, h3⟩ | ⟨h1, h2⟩
 ·rw [h3]; exact ⟨_, h2, h.adv h1, rfl⟩
 ·rw [h2]; rw [h.toks] at h1; exact h1
theorem Rdy.num (h : Rdy s t) {o : Out} (ho : postNum mfK nvK s o) : PostR t (pNum (restK s)) avI o := by
 rcases num_cases h.le ho with ⟨x, h1, h2, h3⟩ | ⟨h1, h2⟩
 ·rw [h3]; exact ⟨_, h2, h.adv h1, rfl⟩
 ·rw [h2]; rw [h.toks] at h1; exact h1
theorem Rdy.relM (h : Rdy s t) : RelM s ⟨[], [], [], []⟩ := ⟨h.em.td, h.em.nm, h.em.ni, h.em.pt, h.le⟩
end
end Go.Proofs.YtnnolijagpakiaaGreatDoor
