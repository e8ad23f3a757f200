/- Texts of this proof, part 8: what the proof uses of them. -/
import Derived.RangeFuncWrites
import Derived.Test.YtnjedgpidalioaaGreatDoorQag
import Derived.RangeFuncBound
import Derived.RangeFuncCalls
import Derived.RangeFuncLeaves
import Derived.Shelf.Abstract
import Derived.Shelf.RegionOpen
import Derived.OwnWalkIn
import Derived.TacticsInMore
import Derived.LoopNIn
import Derived.LoopIn
import Derived.OneCell
import Derived.Deep.LoopGhost
import Derived.Outline
namespace Go.Proofs.YtnjedgpidalioaaGreatDoor
section
open Go Go.RowKit
def SeqR {α : Type} (F : Fence) (n : Nat) (P : Program) (g : Nat) (lb : Array Value) (encs : α → Array Value) (Kp R : World → World → Prop) (X : List α → α → Prop) (S Sp : List α → Prop) (W : World) : Prop :=
 ∀ (l : Nat) (J Jx : List α → World → Prop),
  (∀ pre A B, J pre A → R A B → J pre B) → (∀ pre A B, Jx pre A → R A B → Jx pre B) →
  (∀ pre x A, J pre A → X pre x → YieldAt F (n - 1) P l (encs x) A fun e B =>
   (e = .returned (.bool true) ∧ J (pre ++ [x]) B ∧ Kp A B) ∨ (e = .returned (.bool false) ∧ Jx (pre ++ [x]) B)) →
  J [] W →
  CallsIn F n P g (#[.func (.yield l) #[] #[]] ++ lb) W fun e B => (∃ v, e = .returned v) ∧ ((∃ xs, S xs ∧ J xs B) ∨ (∃ pre, Sp pre ∧ Jx pre B))
variable {F : Fence} {n : Nat} {P : Program}
theorem wpIn_rangeFunc_R {α : Type} {g : Operand} {ps : Array Tmp} {assign body : Code} {Q : Exit → Act → World → Prop} {a : Act} {w : World}
  (hro : F.round = none) (h1 : 1 ≤ n) {gf : Nat} {lb : Array Value} (hg : a.eval g = .func (.func gf) #[] lb) (hFg : F.fn gf) (eg : ∀ args w, (callFunc gf args).run P w = .ok (.enter gf args) w)
  {encs : α → Array Value} {Kp R : World → World → Prop} {X : List α → α → Prop} {S Sp : List α → Prop}
  (hseq : ∀ r : Loop, SeqR F (n - 1) P gf lb encs Kp R X S Sp ((w.alloc (.deferred (some []))).alloc (.loop r)))
  (hKt : ∀ {A B C : World}, Kp A B → Kp B C → Kp A C)
  (hKb : ∀ (W : World) (l : Nat) (o o' : Obj), w.heap.size ≤ l → W.heap[l]? = some o → o.isCells = false → Kp W (W.putObj l o'))
  (hR : ∀ {A B : World}, R A B → KeepsFrom w.heap.size A B) (hps : ∀ x, (encs x).size = ps.size)
  (I : List α → World → Prop) (Ix : Code → List α → World → Prop) (hI : OwnFrom w.heap.size I) (hIx : ∀ c, OwnFrom w.heap.size (Ix c))
  (hIR : ∀ pre A B, I pre A → R A B → I pre B) (hIxR : ∀ c pre A B, Ix c pre A → R A B → Ix c pre B) (h0 : I [] w) (a₁ : α → Act)
  (hassign : ∀ (l : Nat) (x : α) (W : World) (K : Act → World → Prop), K (a₁ x) W →
   assign.wpIn (F.inRound l) (n - 1 - 1) P (Exit.then K (fun _ _ _ => False)) { tmps := (ps.zip (encs x)).foldl (fun t (p, v) => t.setIfInBounds p v) a.tmps, defers := [] } W)
  (hbody : ∀ (l : Nat) (pre : List α) (x : α) (W : World), I pre W → X pre x → body.wpIn (F.inRound l) (n - 1 - 1) P (ownPostG w.heap.size Kp I Ix (pre ++ [x]) W) (a₁ x) W)
  (hdone : ∀ (D : Nat) (xs : List α) (W : World), w.heap.size ≤ D → S xs → I xs W → W.heap[D]? = some (.deferred (some [])) → Q .normal { a with defers := { target := .collected D, args := #[] } :: a.defers } W)
  (hstop : ∀ (D : Nat) (c : Code) (pre : List α) (W : World), w.heap.size ≤ D → Sp pre → Ix c pre W → W.heap[D]? = some (.deferred (some [])) → c.wpIn F n P Q { a with defers := { target := .collected D, args := #[] } :: a.defers } W) :
  (Code.rangeFunc g ps assign body).wpIn F n P Q a w := by
 refine wpIn_rangeFunc ?_
 intro fn hfn
 rw [hro]
 -- the two blocks that the statement lays: one for the rounds' deferred calls, then the record of the loop
 obtain ⟨rec, hrec⟩ : ∃ rec : LoopState → Option Code → Loop, rec = fun st pe => { state := st, pending := pe, fn, tmps := a.tmps, params := ps, assign, body, defers := w.heap.size } := ⟨_, rfl⟩
 obtain ⟨W1, hW1⟩ : ∃ W1, (w.alloc (.deferred (some []))).alloc (.loop (rec .ready none)) = W1 := ⟨_, rfl⟩
 have hL1 : W1.heap[w.heap.size + 1]? = some (.loop (rec .ready none)) := by
  have := World.alloc_heap_new (w.alloc (.deferred (some []))) (.loop (rec .ready none))
  rw [World.size_alloc, hW1] at this
  exact this
 have hK1 : W1.heap[w.heap.size]? = some (.deferred (some [])) := by
  rw [← hW1]; exact (Below.heap_alloc _ _ _ (by simp)).trans (World.alloc_heap_new w _)
 have hI1 : I [] W1 := by rw [← hW1]; exact hI.alloc _ (hI.alloc _ h0)
 have hseq1 : SeqR F (n - 1) P gf lb encs Kp R X S Sp W1 := hW1 ▸ hseq (rec .ready none)
 refine ⟨w.heap.size + 1, [{ target := .collected w.heap.size, args := #[] }], W1, { target := .fn (.func gf) lb, args := #[.func (.yield (w.heap.size + 1)) #[] #[]] }, W1, gf,
  #[.func (.yield (w.heap.size + 1)) #[] #[]] ++ lb, W1, ?_, ?_, ?_, ?_, fun _ => h1, ?_⟩
 ·rw [← hW1, hrec]; exact run_enterLoop_outer _ _ _ _ _
 ·simp only [resolve, hg]
  simp [go_sem]
 ·intro f' hf'; simp [Target.leads] at hf'; subst hf'; exact hFg
 ·simp [invoke, go_sem, eg]
 ·refine (hseq1 (w.heap.size + 1)
   (fun pre W => I pre W ∧ W.heap[w.heap.size + 1]? = some (.loop (rec .ready none)) ∧ W.heap[w.heap.size]? = some (.deferred (some [])))
   (fun pre W => ∃ c, Ix c pre W ∧ W.heap[w.heap.size + 1]? = some (.loop (rec .done (some c))) ∧ W.heap[w.heap.size]? = some (.deferred (some [])))
   (fun pre A B hs hr => ⟨hIR pre A B hs.1 hr, (hR hr).same _ _ (by omega) hs.2.1 rfl, (hR hr).same _ _ (Nat.le_refl _) hs.2.2 rfl⟩)
   (fun pre A B hs hr => by
    obtain ⟨c, hc, hl, hk⟩ := hs
    exact ⟨c, hIxR c pre A B hc hr, (hR hr).same _ _ (by omega) hl rfl, (hR hr).same _ _ (Nat.le_refl _) hk rfl⟩)
   ?_ ⟨hI1, hL1, hK1⟩).mono ?_
  ·rintro pre x W ⟨hi, hl, hk⟩ hX
   have hlt : w.heap.size + 1 < W.heap.size := (Array.getElem?_eq_some_iff.1 hl).1
   have hy := run_yield (P := P) (args := encs x) hl (by rw [hrec]; exact hps x)
   rw [hrec] at hy
   refine ⟨fn, _, assign, body, hy, roundIn_of_wpIn hfn (hassign _ x W _ ⟨_, run_beginRound hl (by rw [hrec]), ?_⟩)⟩
   have hl2 : (W.putObj (w.heap.size + 1) (.loop { rec .ready none with state := .busy })).heap[w.heap.size + 1]? = some (.loop { rec .ready none with state := .busy }) := World.putObj_heap_same hlt
   have hk2 : (W.putObj (w.heap.size + 1) (.loop { rec .ready none with state := .busy })).heap[w.heap.size]? = some (.deferred (some [])) := (World.putObj_heap_other (by omega)).trans hk
   have hw2 : Kp W (W.putObj (w.heap.size + 1) (.loop { rec .ready none with state := .busy })) := hKb _ _ _ _ (by omega) hl rfl
   refine wpIn_mono (hbody _ pre x _ (hI.putObj _ hi (by omega) hl rfl) hX) ?_
   have fin : ∀ (jump : Option Code) (W3 : World), KeepsFrom w.heap.size (W.putObj (w.heap.size + 1) (.loop { rec .ready none with state := .busy })) W3 →
     (Instr.endRound (w.heap.size + 1) jump).run P W3 = .ok (.bool jump.isNone) (W3.putObj (w.heap.size + 1) (.loop (rec (if jump.isNone then .ready else .done) jump))) ∧
     W3.heap[w.heap.size + 1]? = some (.loop { rec .ready none with state := .busy }) ∧
     (W3.putObj (w.heap.size + 1) (.loop (rec (if jump.isNone then .ready else .done) jump))).heap[w.heap.size + 1]? = some (.loop (rec (if jump.isNone then .ready else .done) jump)) ∧
     (W3.putObj (w.heap.size + 1) (.loop (rec (if jump.isNone then .ready else .done) jump))).heap[w.heap.size]? = some (.deferred (some [])) := fun jump W3 hk3 => by
    have hl3 := hk3.same _ _ (by omega) hl2 rfl
    have := run_endRound (P := P) jump hl3
    rw [hrec] at this ⊢
    exact ⟨this, by rw [hrec] at hl3; exact hl3, World.putObj_heap_same (Array.getElem?_eq_some_iff.1 hl3).1, (World.putObj_heap_other (by omega)).trans (hk3.same _ _ (Nat.le_refl _) hk2 rfl)⟩
   have leave : ∀ (c : Code) (W3 : World), KeepsFrom w.heap.size (W.putObj (w.heap.size + 1) (.loop { rec .ready none with state := .busy })) W3 → Ix c (pre ++ [x]) W3 →
     ∃ v w', (Instr.endRound (w.heap.size + 1) (some c)).run P W3 = .ok v w' ∧ ((Ending.returned v = .returned (.bool true) ∧ (I (pre ++ [x]) w' ∧ w'.heap[w.heap.size + 1]? = some (.loop (rec .ready none)) ∧ w'.heap[w.heap.size]? = some (.deferred (some []))) ∧ Kp W w') ∨
      (Ending.returned v = .returned (.bool false) ∧ ∃ c, Ix c (pre ++ [x]) w' ∧ w'.heap[w.heap.size + 1]? = some (.loop (rec .done (some c))) ∧ w'.heap[w.heap.size]? = some (.deferred (some [])))) := fun c W3 hk3 hi3 => by
    obtain ⟨hr, hl3, hl4, hk4⟩ := fin (some c) W3 hk3
    exact ⟨_, _, hr, .inr ⟨rfl, c, (hIx _).putObj _ hi3 (by omega) hl3 rfl, hl4, hk4⟩⟩
   rintro e a3 W3 hp
   cases e with
   | normal =>
    obtain ⟨hk3, hkp3, hi3⟩ := hp
    obtain ⟨hr, hl3, hl4, hk4⟩ := fin none W3 hk3
    exact ⟨_, _, hr, .inl ⟨rfl, ⟨hI.putObj _ hi3 (by omega) hl3 rfl, hl4, hk4⟩, hKt (hKt hw2 hkp3) (hKb _ _ _ _ (by omega) hl3 rfl)⟩⟩
   | ret => exact leave .ret W3 hp.1 hp.2
   | exit id => exact leave (.exit id) W3 hp.1 hp.2
   | goto t => exact leave (.goto t) W3 hp.1 hp.2
   | panic ch => exact hp.elim
   | outgrown => exact hp.elim
  ·rintro e W2 ⟨⟨v, rfl⟩, (⟨xs, hS, hi, hl, hk⟩ | ⟨pre, hSp, c, hi, hl, hk⟩)⟩
   ·exact ⟨none, _, by have := run_endLoop (P := P) hl (by rw [hrec]; simp); rw [hrec] at this; exact this, hdone _ xs _ (Nat.le_refl _) hS (hI.putObj _ hi (by omega) hl rfl) ((World.putObj_heap_other (by omega)).trans hk)⟩
   ·exact ⟨some c, _, by have := run_endLoop (P := P) hl (by rw [hrec]; simp); rw [hrec] at this; exact this, hstop _ c pre _ (Nat.le_refl _) hSp ((hIx c).putObj _ hi (by omega) hl rfl) ((World.putObj_heap_other (by omega)).trans hk)⟩
end
section
open Go Go.RowKit
variable {F : Fence} {n : Nat} {P : Program}
theorem wpIn_rangeFunc_A {α : Type} {g : Operand} {ps : Array Tmp} {assign body : Code} {Q : Exit → Act → World → Prop} {a : Act} {w : World}
  (hro : F.round = none) (h1 : 1 ≤ n) {gf : Nat} {lb : Array Value} (hg : a.eval g = .func (.func gf) #[] lb) (hFg : F.fn gf) (eg : ∀ args w, (callFunc gf args).run P w = .ok (.enter gf args) w)
  {encs : α → Array Value} {Kp R : World → World → Prop} {X : List α → α → Prop} {S Sp : List α → Prop}
  (hseq : ∀ r : Loop, SeqR F (n - 1) P gf lb encs Kp R X S Sp ((w.alloc (.deferred (some []))).alloc (.loop r)))
  (hKt : ∀ {A B C : World}, Kp A B → Kp B C → Kp A C)
  (hKb : ∀ (W : World) (l : Nat) (o o' : Obj), w.heap.size ≤ l → W.heap[l]? = some o → o.isCells = false → Kp W (W.putObj l o'))
  (hR : ∀ {A B : World}, R A B → KeepsFrom w.heap.size A B) (hps : ∀ x, (encs x).size = ps.size)
  (I : List α → World → Prop) (Ix : Code → List α → World → Prop) (hI : OwnFrom w.heap.size I) (hIx : ∀ c, OwnFrom w.heap.size (Ix c))
  (hIR : ∀ pre A B, I pre A → R A B → I pre B) (hIxR : ∀ c pre A B, Ix c pre A → R A B → Ix c pre B) (h0 : I [] w) (a₁ : α → Nat → Act) (O : α → Obj) (hKa : ∀ (W : World) (o : Obj), Kp W (W.alloc o))
  (hassign : ∀ (l : Nat) (x : α) (W : World) (K : Act → World → Prop), K (a₁ x W.heap.size) (W.alloc (O x)) →
   assign.wpIn (F.inRound l) (n - 1 - 1) P (Exit.then K (fun _ _ _ => False)) { tmps := (ps.zip (encs x)).foldl (fun t (p, v) => t.setIfInBounds p v) a.tmps, defers := [] } W)
  (hbody : ∀ (l : Nat) (pre : List α) (x : α) (b : Nat) (W : World), I pre W → X pre x → W.heap[b]? = some (O x) → w.heap.size ≤ b → body.wpIn (F.inRound l) (n - 1 - 1) P (ownPostG w.heap.size Kp I Ix (pre ++ [x]) W) (a₁ x b) W)
  (hdone : ∀ (D : Nat) (xs : List α) (W : World), w.heap.size ≤ D → S xs → I xs W → W.heap[D]? = some (.deferred (some [])) → Q .normal { a with defers := { target := .collected D, args := #[] } :: a.defers } W)
  (hstop : ∀ (D : Nat) (c : Code) (pre : List α) (W : World), w.heap.size ≤ D → Sp pre → Ix c pre W → W.heap[D]? = some (.deferred (some [])) → c.wpIn F n P Q { a with defers := { target := .collected D, args := #[] } :: a.defers } W) :
  (Code.rangeFunc g ps assign body).wpIn F n P Q a w := by
 refine wpIn_rangeFunc ?_
 intro fn hfn
 rw [hro]
 -- the two blocks that the statement lays: one for the rounds' deferred calls, then the record of the loop
 obtain ⟨rec, hrec⟩ : ∃ rec : LoopState → Option Code → Loop, rec = fun st pe => { state := st, pending := pe, fn, tmps := a.tmps, params := ps, assign, body, defers := w.heap.size } := ⟨_, rfl⟩
 obtain ⟨W1, hW1⟩ : ∃ W1, (w.alloc (.deferred (some []))).alloc (.loop (rec .ready none)) = W1 := ⟨_, rfl⟩
 have hL1 : W1.heap[w.heap.size + 1]? = some (.loop (rec .ready none)) := by
  have := World.alloc_heap_new (w.alloc (.deferred (some []))) (.loop (rec .ready none))
  rw [World.size_alloc, hW1] at this
  exact this
 have hK1 : W1.heap[w.heap.size]? = some (.deferred (some [])) := by
  rw [← hW1]; exact (Below.heap_alloc _ _ _ (by simp)).trans (World.alloc_heap_new w _)
 have hI1 : I [] W1 := by rw [← hW1]; exact hI.alloc _ (hI.alloc _ h0)
 have hseq1 : SeqR F (n - 1) P gf lb encs Kp R X S Sp W1 := hW1 ▸ hseq (rec .ready none)
 refine ⟨w.heap.size + 1, [{ target := .collected w.heap.size, args := #[] }], W1, { target := .fn (.func gf) lb, args := #[.func (.yield (w.heap.size + 1)) #[] #[]] }, W1, gf,
  #[.func (.yield (w.heap.size + 1)) #[] #[]] ++ lb, W1, ?_, ?_, ?_, ?_, fun _ => h1, ?_⟩
 ·rw [← hW1, hrec]; exact run_enterLoop_outer _ _ _ _ _
 ·simp only [resolve, hg]
  simp [go_sem]
 ·intro f' hf'; simp [Target.leads] at hf'; subst hf'; exact hFg
 ·simp [invoke, go_sem, eg]
 ·refine (hseq1 (w.heap.size + 1)
   (fun pre W => I pre W ∧ W.heap[w.heap.size + 1]? = some (.loop (rec .ready none)) ∧ W.heap[w.heap.size]? = some (.deferred (some [])))
   (fun pre W => ∃ c, Ix c pre W ∧ W.heap[w.heap.size + 1]? = some (.loop (rec .done (some c))) ∧ W.heap[w.heap.size]? = some (.deferred (some [])))
   (fun pre A B hs hr => ⟨hIR pre A B hs.1 hr, (hR hr).same _ _ (by omega) hs.2.1 rfl, (hR hr).same _ _ (Nat.le_refl _) hs.2.2 rfl⟩)
   (fun pre A B hs hr => by
    obtain ⟨c, hc, hl, hk⟩ := hs
    exact ⟨c, hIxR c pre A B hc hr, (hR hr).same _ _ (by omega) hl rfl, (hR hr).same _ _ (Nat.le_refl _) hk rfl⟩)
   ?_ ⟨hI1, hL1, hK1⟩).mono ?_
  ·rintro pre x W ⟨hi, hl, hk⟩ hX
   have hlt : w.heap.size + 1 < W.heap.size := (Array.getElem?_eq_some_iff.1 hl).1
   have hy := run_yield (P := P) (args := encs x) hl (by rw [hrec]; exact hps x)
   rw [hrec] at hy
   have hlA : (W.alloc (O x)).heap[w.heap.size + 1]? = some (.loop (rec .ready none)) := (Below.heap_alloc _ _ _ hlt).trans hl
   have hkA : (W.alloc (O x)).heap[w.heap.size]? = some (.deferred (some [])) := (Below.heap_alloc _ _ _ (by omega)).trans hk
   have hbA : (W.alloc (O x)).heap[W.heap.size]? = some (O x) := World.alloc_heap_new W _
   have hiA := hI.alloc (O x) hi
   have hpA := hKa W (O x)
   have hltA : w.heap.size + 1 < (W.alloc (O x)).heap.size := (Array.getElem?_eq_some_iff.1 hlA).1
   refine ⟨fn, _, assign, body, hy, roundIn_of_wpIn hfn (hassign _ x W _ ⟨_, run_beginRound hlA (by rw [hrec]), ?_⟩)⟩
   obtain ⟨bA, hbe⟩ : ∃ bA, W.heap.size = bA := ⟨_, rfl⟩
   have hbL : w.heap.size ≤ bA := by omega
   have hbN : bA ≠ w.heap.size + 1 := by omega
   rw [hbe] at hbA ⊢
   generalize W.alloc (O x) = WA at *
   have hl2 : (WA.putObj (w.heap.size + 1) (.loop { rec .ready none with state := .busy })).heap[w.heap.size + 1]? = some (.loop { rec .ready none with state := .busy }) := World.putObj_heap_same hltA
   have hk2 : (WA.putObj (w.heap.size + 1) (.loop { rec .ready none with state := .busy })).heap[w.heap.size]? = some (.deferred (some [])) := (World.putObj_heap_other (by omega)).trans hkA
   have hw2 : Kp W (WA.putObj (w.heap.size + 1) (.loop { rec .ready none with state := .busy })) := hKt hpA (hKb _ _ _ _ (by omega) hlA rfl)
   refine wpIn_mono (hbody _ pre x bA _ (hI.putObj _ hiA (by omega) hlA rfl) hX ((World.putObj_heap_other hbN).trans hbA) hbL) ?_
   have fin : ∀ (jump : Option Code) (W3 : World), KeepsFrom w.heap.size (WA.putObj (w.heap.size + 1) (.loop { rec .ready none with state := .busy })) W3 →
     (Instr.endRound (w.heap.size + 1) jump).run P W3 = .ok (.bool jump.isNone) (W3.putObj (w.heap.size + 1) (.loop (rec (if jump.isNone then .ready else .done) jump))) ∧
     W3.heap[w.heap.size + 1]? = some (.loop { rec .ready none with state := .busy }) ∧
     (W3.putObj (w.heap.size + 1) (.loop (rec (if jump.isNone then .ready else .done) jump))).heap[w.heap.size + 1]? = some (.loop (rec (if jump.isNone then .ready else .done) jump)) ∧
     (W3.putObj (w.heap.size + 1) (.loop (rec (if jump.isNone then .ready else .done) jump))).heap[w.heap.size]? = some (.deferred (some [])) := fun jump W3 hk3 => by
    have hl3 := hk3.same _ _ (by omega) hl2 rfl
    have := run_endRound (P := P) jump hl3
    rw [hrec] at this ⊢
    exact ⟨this, by rw [hrec] at hl3; exact hl3, World.putObj_heap_same (Array.getElem?_eq_some_iff.1 hl3).1, (World.putObj_heap_other (by omega)).trans (hk3.same _ _ (Nat.le_refl _) hk2 rfl)⟩
   have leave : ∀ (c : Code) (W3 : World), KeepsFrom w.heap.size (WA.putObj (w.heap.size + 1) (.loop { rec .ready none with state := .busy })) W3 → Ix c (pre ++ [x]) W3 →
     ∃ v w', (Instr.endRound (w.heap.size + 1) (some c)).run P W3 = .ok v w' ∧ ((Ending.returned v = .returned (.bool true) ∧ (I (pre ++ [x]) w' ∧ w'.heap[w.heap.size + 1]? = some (.loop (rec .ready none)) ∧ w'.heap[w.heap.size]? = some (.deferred (some []))) ∧ Kp W w') ∨
      (Ending.returned v = .returned (.bool false) ∧ ∃ c, Ix c (pre ++ [x]) w' ∧ w'.heap[w.heap.size + 1]? = some (.loop (rec .done (some c))) ∧ w'.heap[w.heap.size]? = some (.deferred (some [])))) := fun c W3 hk3 hi3 => by
    obtain ⟨hr, hl3, hl4, hk4⟩ := fin (some c) W3 hk3
    exact ⟨_, _, hr, .inr ⟨rfl, c, (hIx _).putObj _ hi3 (by omega) hl3 rfl, hl4, hk4⟩⟩
   rintro e a3 W3 hp
   cases e with
   | normal =>
    obtain ⟨hk3, hkp3, hi3⟩ := hp
    obtain ⟨hr, hl3, hl4, hk4⟩ := fin none W3 hk3
    exact ⟨_, _, hr, .inl ⟨rfl, ⟨hI.putObj _ hi3 (by omega) hl3 rfl, hl4, hk4⟩, hKt (hKt hw2 hkp3) (hKb _ _ _ _ (by omega) hl3 rfl)⟩⟩
   | ret => exact leave .ret W3 hp.1 hp.2
   | exit id => exact leave (.exit id) W3 hp.1 hp.2
   | goto t => exact leave (.goto t) W3 hp.1 hp.2
   | panic ch => exact hp.elim
   | outgrown => exact hp.elim
  ·rintro e W2 ⟨⟨v, rfl⟩, (⟨xs, hS, hi, hl, hk⟩ | ⟨pre, hSp, c, hi, hl, hk⟩)⟩
   ·exact ⟨none, _, by have := run_endLoop (P := P) hl (by rw [hrec]; simp); rw [hrec] at this; exact this, hdone _ xs _ (Nat.le_refl _) hS (hI.putObj _ hi (by omega) hl rfl) ((World.putObj_heap_other (by omega)).trans hk)⟩
   ·exact ⟨some c, _, by have := run_endLoop (P := P) hl (by rw [hrec]; simp); rw [hrec] at this; exact this, hstop _ c pre _ (Nat.le_refl _) hSp ((hIx c).putObj _ hi (by omega) hl rfl) ((World.putObj_heap_other (by omega)).trans hk)⟩
end
section
open Go.RowKit Go.Shelf
attribute [local go_sem] Oper.semAt_some
def boxLen (w : World) (b : Nat) : Nat := match w.cell? ⟨b, 0, none⟩ with | some (Value.string r) => r.size | _ => 0
theorem boxLen_eq {w : World} {b t : Nat} {r : ByteArray} (h : w.heap[b]? = some (.cells #[.string r] t (0, 0))) : boxLen w b = r.size := by simp [boxLen, cell_of_one h]
def SplitAll (s : ByteArray) (xs : List ByteArray) : Prop := xs.map (fun x => x.data.toList) = partsL s.data.toList
def SplitPre (s : ByteArray) (xs : List ByteArray) : Prop := xs.map (fun x => x.data.toList) <+: partsL s.data.toList
def KeepB (bs : List Nat) (A B : World) : Prop := ∀ b ∈ bs, B.heap[b]? = A.heap[b]?
def StoreB (b : Nat) (A B : World) : Prop := ∃ r : ByteArray, B = A.setCell ⟨b, 0, none⟩ (.string r)
theorem index_one (s : ByteArray) (c : UInt8) (w : World) :
  Calls Tryz.prog 164 #[.string s, .string ⟨#[c]⟩] w fun e w' => e = .returned (.int .i64 (Lib.indexByte s.data.toList c)) ∧ w = w' :=
 (Tryz.strings_Index_one s c w).mono fun _ _ ⟨h1, h2⟩ => ⟨h1, h2.symm⟩
set_option maxRecDepth 100000 in
set_option maxHeartbeats 2000000 in
theorem split1_in (n l b1 b2 b3 : Nat) (hn1 : 1 ≤ n) (s : ByteArray) (hs : s.size ≤ 9223372036854775806) (h12 : b1 ≠ b2) (h32 : b3 ≠ b2) (J Jx : List ByteArray → World → Prop)
  (hJ : ∀ pre A B, J pre A → StoreB b2 A B → J pre B)
  (hY : ∀ pre x A, J pre A → YieldAt Fence.wide (n - 1) Tryz.prog l #[.string x] A fun e B =>
   (e = .returned (.bool true) ∧ J (pre ++ [x]) B ∧ KeepB [b1, b2, b3] A B) ∨ (e = .returned (.bool false) ∧ Jx (pre ++ [x]) B))
  (W : World) (hb1 : W.heap[b1]? = some (.cells #[.string ⟨#[47]⟩] 9 (0, 0))) (hb2 : W.heap[b2]? = some (.cells #[.string s] 9 (0, 0))) (hb3 : W.heap[b3]? = some (.cells #[.int .i64 0] 3 (0, 0))) (h0 : J [] W) :
  CallsIn Fence.wide n Tryz.prog 162 #[.func (.yield l) #[] #[], .pointer (some ⟨b1, 0, none⟩), .pointer (some ⟨b2, 0, none⟩), .pointer (some ⟨b3, 0, none⟩)] W fun e B => (∃ v, e = .returned v) ∧
   ((∃ xs : List ByteArray, SplitAll s xs ∧ J xs B) ∨ (∃ pre : List ByteArray, SplitPre s pre ∧ Jx pre B)) := by
 have c1 := cell_of_one hb1
 refine callsIn_of_wp Tryz.func162 rfl trivial ?_ rfl
 simp only [Tryz.ntmps162, List.size_toArray, List.length_cons, List.length_nil, Nat.reduceAdd, Nat.reduceSub, Array.replicate_succ, Array.replicate_zero, List.push_toArray, List.append_toArray, List.nil_append, List.cons_append]
 gi_wp2_with fail
 gi_loopw [7, 8] (fun _ _ wr => ∃ (pre : List ByteArray) (r : ByteArray), wr.heap[b1]? = some (.cells #[.string ⟨#[47]⟩] 9 (0, 0)) ∧ wr.heap[b2]? = some (.cells #[.string r] 9 (0, 0)) ∧ wr.heap[b3]? = some (.cells #[.int .i64 0] 3 (0, 0)) ∧
   r.size ≤ 9223372036854775806 ∧ J pre wr ∧ Hid (pre.map (·.data.toList) ++ partsL r.data.toList = partsL s.data.toList)) (fun _ _ wr => boxLen wr b2)
 case atStart => exact ⟨[], s, hb1, hb2, hb3, hs, h0, Lib.hid rfl⟩
 case round =>
  obtain ⟨pre, r, hr1, hr2, hr3, hrs, hJr, hP⟩ := hrel
  have d1 := cell_of_one hr1
  have d2 := cell_of_one hr2
  have d3 := cell_of_one hr3
  have f2 := free_of_one hr2
  have hge := Lib.indexByte_ge r.data.toList 47
  have HC := Lib.hid (index_one r 47 wr)
  have HR1 := Lib.hid hr1
  have HR2 := Lib.hid hr2
  have HR3 := Lib.hid hr3
  clear hr1 hr2 hr3 c1 hb1 hb2 hb3
  by_cases hneg : Lib.indexByte r.data.toList 47 < 0
  ·have hm1 : Lib.indexByte r.data.toList 47 = -1 := by omega
   have HN := Lib.hid (partsL_none hm1)
   rw [hm1] at HC
   clear hm1 hneg hge
   obtain ⟨fn, tmps, assign, body, hy, hR⟩ := hY pre r wr hJr
   gi_wp2_with (first | (refine ⟨trivial, ?_⟩; gi_at_call 164; refine (callsIn_wide.2 HC.out).mono ?_; rintro e w' ⟨rfl, rfl⟩))
   refine hR.mono ?_
   rintro e W3 (⟨rfl, hJ3, hk3⟩ | ⟨rfl, hJx3⟩)
   ·gi_wp2_with fail
    go_end0
    exact ⟨⟨_, rfl⟩, .inl ⟨_, by unfold SplitAll; rw [← hP.out, HN.out]; simp, hJ3⟩⟩
   ·gi_wp2_with fail
    go_end0
    exact ⟨⟨_, rfl⟩, .inr ⟨_, by unfold SplitPre; rw [← hP.out, HN.out]; simp, hJx3⟩⟩
  ·obtain ⟨i, hi⟩ : ∃ i : Nat, Lib.indexByte r.data.toList 47 = (i : Int) := ⟨_, (Int.toNat_of_nonneg (by omega)).symm⟩
   obtain ⟨hlt, hparts⟩ := partsL_some hi
   have hlt' : i < r.size := by simpa using hlt
   rw [hi] at HC
   clear hi hlt hneg hge
   have HN := Lib.hid hparts
   clear hparts
   obtain ⟨fn, tmps, assign, body, hy, hR⟩ := hY pre (r.extract 0 i) wr hJr
   gi_wp2_with (first | (refine ⟨trivial, ?_⟩; gi_at_call 164; refine (callsIn_wide.2 HC.out).mono ?_; rintro e w' ⟨rfl, rfl⟩))
   refine hR.mono ?_
   rintro e W3 (⟨rfl, hJ3, hk3⟩ | ⟨rfl, hJx3⟩)
   ·have k1 : W3.heap[b1]? = _ := (hk3 b1 (by simp)).trans HR1.out
    have k2 : W3.heap[b2]? = _ := (hk3 b2 (by simp)).trans HR2.out
    have k3 : W3.heap[b3]? = _ := (hk3 b3 (by simp)).trans HR3.out
    have g1 := cell_of_one k1
    have g2 := cell_of_one k2
    have g3 := cell_of_one k3
    have e2 := free_of_one k2
    have K1 := Lib.hid k1
    have K2 := Lib.hid k2
    have K3 := Lib.hid k3
    have hk3' := Lib.hid hk3
    clear k1 k2 k3 d1 d2 d3 f2 hk3
    gi_wp2_with fail
    go_roundw
    case rel =>
     refine ⟨_, r.extract (i + 1) r.size, ?_, one_setCell K2.out, ?_, by simp; omega, hJ _ _ _ hJ3 ⟨_, rfl⟩, Lib.hid ?_⟩
     ·exact (Below.heap_setCell _ _ _ _ h12).trans K1.out
     ·exact (Below.heap_setCell _ _ _ _ h32).trans K3.out
     ·rw [← hP.out, HN.out, extract_end]
      simp
    case measure => rw [boxLen_eq (one_setCell K2.out), boxLen_eq HR2.out]; simp; omega
   ·gi_wp2_with fail
    refine bodyPost_ret (results_none rfl _ _ _) rfl ?_
    exact ⟨⟨_, rfl⟩, .inr ⟨_, ⟨partsL (r.data.toList.drop (i + 1)), by rw [← hP.out, HN.out]; simp⟩, hJx3⟩⟩
end
section
open Go.RowKit Go.Shelf
attribute [local go_sem] Oper.semAt_some
theorem splitSeq_any (s sep : ByteArray) (w : World) :
  Calls Tryz.prog 78 #[.string s, .string sep] w fun e w' =>
   e = .returned (.func (.func 162) #[] #[.pointer (some ⟨w.heap.size + 1, 0, none⟩), .pointer (some ⟨w.heap.size, 0, none⟩), .pointer (some ⟨w.heap.size + 1 + 1, 0, none⟩)]) ∧
   ((w.alloc (.cells #[.string s] 9)).alloc (.cells #[.string sep] 9)).alloc (.cells #[.int .i64 0] 3) = w' := by
 go_enter Tryz.func78, Tryz.ntmps78
 go_wp2
 go_ret
 exact ⟨rfl, rfl⟩
theorem labelL_long {l : List UInt8} (h : 90 < l.length) : labelL l = false := by
 have : ¬ l.length ≤ 90 := by omega
 simp [labelL, this]
theorem label_long (s : ByteArray) (w : World) (h : 90 < s.size) :
  Calls Tryz.prog 46 #[.string s] w fun e w' => e = .returned (.bool (labelL s.data.toList)) ∧ Below w.heap.size w w' := by
 have HF := Lib.hid (labelL_long (l := s.data.toList) (by simpa using h))
 go_enter Tryz.func46, Tryz.ntmps46
 go_wp2_with fail
 refine bodyPost_ret (v := .bool false) (by simp [results, Tryz.results46, go_sem]) rfl ?_
 exact ⟨by rw [HF.out], (Below.refl _ _).alloc (Nat.le_refl _) _⟩
theorem wordL_less {l : List UInt8} {a b : Nat} (h : l.length ≤ a) (h' : l.length ≤ b) : wordL a l = wordL b l := by
 cases l with
 | nil => rfl
 | cons c r =>
  have h1 : r.length + 1 ≤ a := by simpa using h
  have h2 : r.length + 1 ≤ b := by simpa using h'
  simp [wordL, h1, h2]
theorem keepB_below {bs : List Nat} {A B : World} (h : Below A.heap.size A B) (hb : ∀ b ∈ bs, b < A.heap.size) : KeepB bs A B := fun b hm => h.block b (hb b hm)
theorem keepsOthers_below {A B : World} (h : Below A.heap.size A B) : KeepsOthers A B := ⟨h.size, fun k _ hk _ => (h.block k (Array.getElem?_eq_some_iff.1 hk).1).trans hk⟩
def AllWords (pre : List ByteArray) : Prop := ∀ p ∈ pre, wordL 20 p.data.toList = true
def BadWord (pre : List ByteArray) : Prop := ∃ p ∈ pre, wordL 20 p.data.toList = false
def LabelI (w : World) (pre : List ByteArray) (W : World) : Prop := AllWords pre ∧ W.heap[w.heap.size]? = some (.cells #[.bool false] 4 (0, 0)) ∧ w.heap.size + 1 + 1 + 1 + 1 ≤ W.heap.size ∧ Below w.heap.size w W
def LabelX (w : World) (c : Code) (pre : List ByteArray) (W : World) : Prop := c = .ret ∧ BadWord pre ∧ W.heap[w.heap.size]? = some (.cells #[.bool false] 4 (0, 0)) ∧ w.heap.size + 1 + 1 + 1 + 1 ≤ W.heap.size ∧ Below w.heap.size w W
theorem allWords_snoc {pre : List ByteArray} {x : ByteArray} (h : AllWords pre) (hx : wordL 20 x.data.toList = true) : AllWords (pre ++ [x]) := by
 intro p hp
 rcases List.mem_append.1 hp with h1 | h1
 ·exact h p h1
 ·simp at h1; subst h1; exact hx
theorem badWord_snoc {pre : List ByteArray} {x : ByteArray} (hx : wordL 20 x.data.toList = false) : BadWord (pre ++ [x]) := ⟨x, by simp, hx⟩
theorem one_kept {W W' : World} {row : Option Nat} {b : Nat} {v : Value} {t : TypeId} (h : W.heap[b]? = some (.cells #[v] t (0, 0))) (hg : W.grownBy W' row) (hr : ∀ r, row = some r → ∃ o : Obj, W.heap[r]? = some o ∧ o.isCells = false) : W'.heap[b]? = some (.cells #[v] t (0, 0)) :=
 (grownBy_keeps_cells hg hr h rfl).trans h
theorem labelI_own (w : World) (B : Nat) (hB : w.heap.size ≤ B) : OwnFrom B (LabelI w) := fun s W W' row hs hg hr =>
 ⟨hs.1, one_kept hs.2.1 hg (fun r e => (hr r e).2), Nat.le_trans hs.2.2.1 hg.size, hs.2.2.2.trans ((Below.refl _ _).grown hg (by have := hs.2.2.1; omega) (fun k e => by have := (hr k e).1; omega))⟩
theorem labelX_own (w : World) (c : Code) (B : Nat) (hB : w.heap.size ≤ B) : OwnFrom B (LabelX w c) := fun s W W' row hs hg hr =>
 ⟨hs.1, hs.2.1, one_kept hs.2.2.1 hg (fun r e => (hr r e).2), Nat.le_trans hs.2.2.2.1 hg.size, hs.2.2.2.2.trans ((Below.refl _ _).grown hg (by have := hs.2.2.2.1; omega) (fun k e => by have := (hr k e).1; omega))⟩
theorem labelI_store (w : World) (pre : List ByteArray) (A B : World) (h : LabelI w pre A) (hr : StoreB (w.heap.size + 1) A B) : LabelI w pre B := by
 obtain ⟨r, rfl⟩ := hr
 refine ⟨h.1, (Below.heap_setCell _ _ _ _ (by simp)).trans h.2.1, by simpa [World.setCell] using h.2.2.1, h.2.2.2.setCell (p := ⟨w.heap.size + 1, 0, none⟩) (by simp) _⟩
theorem labelX_store (w : World) (c : Code) (pre : List ByteArray) (A B : World) (h : LabelX w c pre A) (hr : StoreB (w.heap.size + 1) A B) : LabelX w c pre B := by
 obtain ⟨r, rfl⟩ := hr
 refine ⟨h.1, h.2.1, (Below.heap_setCell _ _ _ _ (by simp)).trans h.2.2.1, by simpa [World.setCell] using h.2.2.2.1, h.2.2.2.2.setCell (p := ⟨w.heap.size + 1, 0, none⟩) (by simp) _⟩
theorem labelI_below (w : World) (pre pre' : List ByteArray) (A B : World) (h : LabelI w pre A) (hw : AllWords pre') (hb : Below A.heap.size A B) : LabelI w pre' B :=
 ⟨hw, (hb.block _ (by have := h.2.2.1; omega)).trans h.2.1, Nat.le_trans h.2.2.1 hb.size, h.2.2.2.trans (hb.mono (by have := h.2.2.1; omega))⟩
theorem labelL_all {s : ByteArray} {xs : List ByteArray} (h : s.size ≤ 90) (hx : SplitAll s xs) (ha : AllWords xs) : labelL s.data.toList = true := by
 unfold SplitAll at hx
 unfold labelL
 rw [← hx, Bool.and_eq_true]
 refine ⟨by simpa using h, ?_⟩
 rw [List.all_eq_true]
 intro p hp
 obtain ⟨q, hq, rfl⟩ := List.mem_map.1 hp
 exact ha q hq
theorem labelL_bad {s : ByteArray} {xs : List ByteArray} (hx : SplitPre s xs) (ha : BadWord xs) : labelL s.data.toList = false := by
 unfold labelL
 rw [Bool.and_eq_false_iff]; right
 rw [List.all_eq_false]
 obtain ⟨q, hq, hb⟩ := ha
 exact ⟨q.data.toList, (show _ <+: _ from hx).subset (List.mem_map.2 ⟨q, hq, rfl⟩), by simp [hb]⟩
set_option maxRecDepth 100000 in
set_option maxHeartbeats 2000000 in
theorem label_short (s : ByteArray) (w : World) (h : s.size ≤ 90) :
  Calls Tryz.prog 46 #[.string s] w fun e w' => e = .returned (.bool (labelL s.data.toList)) ∧ Below w.heap.size w w' := by
 have h90 : decide (90 < (s.size : Int)) = false := by simp; omega
 refine (callsIn_wide (n := 4)).1 ?_
 refine callsIn_of_wp_marks Tryz.func46 rfl trivial ?_ rfl
 simp only [Tryz.ntmps46, List.size_toArray, List.length_cons, List.length_nil, Nat.reduceAdd, Nat.reduceSub, Array.replicate_succ, Array.replicate_zero, List.push_toArray, List.append_toArray, List.nil_append, List.cons_append]
 gi_wp2_with (first | (refine ⟨trivial, ?_⟩; gi_at_call 78; refine (callsIn_wide.2 (splitSeq_any s ⟨#[47]⟩ _)).mono ?_; rintro e w' ⟨rfl, rfl⟩))
 obtain ⟨W0, hW0⟩ : ∃ W0, ((((w.alloc (Obj.cells #[Value.bool false] 4)).alloc (Obj.cells #[Value.string s] 9)).alloc (Obj.cells #[Value.string ⟨#[47]⟩] 9)).alloc (Obj.cells #[Value.int IntKind.i64 0] 3)) = W0 := ⟨_, rfl⟩
 have z0 : w.heap.size + 1 + 1 + 1 + 1 = W0.heap.size := by rw [← hW0]; simp
 have q0 : W0.heap[w.heap.size]? = some (.cells #[.bool false] 4 (0, 0)) := by rw [← hW0]; exact (Below.heap_alloc _ _ _ (by simp <;> omega)).trans ((Below.heap_alloc _ _ _ (by simp <;> omega)).trans ((Below.heap_alloc _ _ _ (by simp)).trans (World.alloc_heap_new w _)))
 have q1 : W0.heap[w.heap.size + 1]? = some (.cells #[.string s] 9 (0, 0)) := by
  rw [← hW0]; refine (Below.heap_alloc _ _ _ (by simp <;> omega)).trans ((Below.heap_alloc _ _ _ (by simp)).trans ?_)
  have := World.alloc_heap_new (w.alloc (Obj.cells #[Value.bool false] 4)) (Obj.cells #[Value.string s] 9)
  rwa [World.size_alloc] at this
 have q2 : W0.heap[w.heap.size + 1 + 1]? = some (.cells #[.string ⟨#[47]⟩] 9 (0, 0)) := by
  rw [← hW0]; refine (Below.heap_alloc _ _ _ (by simp)).trans ?_
  have := World.alloc_heap_new ((w.alloc (Obj.cells #[Value.bool false] 4)).alloc (Obj.cells #[Value.string s] 9)) (Obj.cells #[Value.string ⟨#[47]⟩] 9)
  simp only [World.size_alloc] at this
  exact this
 have q3 : W0.heap[w.heap.size + 1 + 1 + 1]? = some (.cells #[.int .i64 0] 3 (0, 0)) := by
  rw [← hW0]
  have := World.alloc_heap_new (((w.alloc (Obj.cells #[Value.bool false] 4)).alloc (Obj.cells #[Value.string s] 9)).alloc (Obj.cells #[Value.string ⟨#[47]⟩] 9)) (Obj.cells #[Value.int IntKind.i64 0] 3)
  simp only [World.size_alloc] at this
  exact this
 have bl : Below w.heap.size w W0 := by
  rw [← hW0]; exact ((((Below.refl _ w).alloc (Nat.le_refl _) _).alloc (by simp) _).alloc (by simp <;> omega) _).alloc (by simp <;> omega) _
 rw [hW0]
 clear hW0
 have hal : ∀ (r : Loop) (b : Nat) (o : Obj), W0.heap[b]? = some o → ((W0.alloc (.deferred (some []))).alloc (.loop r)).heap[b]? = some o := fun r b o hb => by
  have := (Array.getElem?_eq_some_iff.1 hb).1
  exact (Below.heap_alloc _ _ _ (by simp <;> omega)).trans ((Below.heap_alloc _ _ _ this).trans hb)
 refine wpIn_rangeFunc_R (P := Tryz.prog) (F := Fence.wide) (n := 4) rfl (by omega) (gf := 162) (lb := #[.pointer (some ⟨w.heap.size + 1 + 1, 0, none⟩), .pointer (some ⟨w.heap.size + 1, 0, none⟩), .pointer (some ⟨w.heap.size + 1 + 1 + 1, 0, none⟩)]) rfl trivial (enters_of Tryz.func162 (by kernel_rfl) rfl)
  (encs := fun x : ByteArray => #[.string x]) (Kp := KeepB [w.heap.size + 1 + 1, w.heap.size + 1, w.heap.size + 1 + 1 + 1]) (R := StoreB (w.heap.size + 1)) (X := fun _ _ => True)
  (S := SplitAll s) (Sp := SplitPre s)
  (fun r l J Jx hJ _ hY hJ0 => split1_in 3 l _ _ _ (by omega) s (by omega) (by omega) (by omega) J Jx hJ (fun pre x A hA => hY pre x A hA trivial) _ (hal r _ _ q2) (hal r _ _ q1) (hal r _ _ q3) hJ0)
  (fun h1 h2 b hb => (h2 b hb).trans (h1 b hb)) (fun W l o o' hl _ _ b hb => World.putObj_heap_other (by simp at hb; omega))
  (fun ⟨r, hr⟩ => hr ▸ (KeepsOthers.setCell _ _ _).from _) (fun _ => rfl)
  (LabelI w) (LabelX w) (labelI_own w _ (by omega)) (fun c => labelX_own w c _ (by omega)) (labelI_store w) (labelX_store w)
  ⟨fun _ hp => by simp at hp, q0, by omega, bl⟩
  (fun x => { tmps := #[Value.string s, undef, Value.pointer (some { block := w.heap.size, off := 0 }), Value.string x, Value.string s, Value.int IntKind.i64 ↑s.size, Value.bool false, Value.string s,
        Value.func (Fn.func 162) #[] #[Value.pointer (some { block := w.heap.size + 1 + 1, off := 0 }), Value.pointer (some { block := w.heap.size + 1, off := 0 }), Value.pointer (some { block := w.heap.size + 1 + 1 + 1, off := 0 })],
        Value.string x, undef, undef, undef, undef, undef, undef, undef, undef], defers := [] }) ?assign ?body ?done ?stop
 case assign =>
  intro l x W K hK
  gi_wp2
  exact hK
 case body =>
  rintro l pre x W hI -
  have c0 := cell_of_one hI.2.1
  have f0 := free_of_one hI.2.1
  have HI := Lib.hid hI
  clear hI
  by_cases hx : 20 < x.size
  ·have HX := Lib.hid (badWord_snoc (pre := pre) (wordL_long (l := x.data.toList) (most := 20) (by simpa using hx)))
   gi_wp2_with fail
   refine ⟨trivial, ?_⟩
   gi_wp2_with fail
   exact ⟨(KeepsOthers.setCell _ _ _).from _, rfl, HX.out, one_setCell HI.out.2.1, by simpa [World.setCell] using HI.out.2.2.1, HI.out.2.2.2.setCell (p := ⟨w.heap.size, 0, none⟩) (Nat.le_refl _) _⟩
  ·have HL := Lib.hid (wordL_less (l := x.data.toList) (a := 24) (b := 20) (by simp; omega) (by simp; omega))
   cases hw : wordL 24 x.data.toList
   ·gi_wp2_with (first | (refine ⟨trivial, ?_⟩; gi_at_call 79; refine (CallsIn.inRound l (callsIn_wide.2 (word_any x W))).mono ?_; rintro e w' ⟨rfl, hb⟩; have g0 := (hb.cell (p := ⟨w.heap.size, 0, none⟩) (by have := HI.out.2.2.1; show w.heap.size < _; omega)).trans c0; have e0 := (hb.frozen (p := ⟨w.heap.size, 0, none⟩) (by have := HI.out.2.2.1; show w.heap.size < _; omega)).trans f0; have HB := Lib.hid hb; clear hb))
    have hq := labelI_below w pre pre W _ HI.out HI.out.1 HB.out
    exact ⟨((keepsOthers_below HB.out).trans (KeepsOthers.setCell _ _ _)).from _, rfl, badWord_snoc (HL.out ▸ hw), one_setCell hq.2.1, by simpa [World.setCell] using hq.2.2.1, hq.2.2.2.setCell (p := ⟨w.heap.size, 0, none⟩) (Nat.le_refl _) _⟩
   ·gi_wp2_with (first | (refine ⟨trivial, ?_⟩; gi_at_call 79; refine (CallsIn.inRound l (callsIn_wide.2 (word_any x W))).mono ?_; rintro e w' ⟨rfl, hb⟩; have HB := Lib.hid hb; clear hb))
    exact ⟨(keepsOthers_below HB.out).from _, keepB_below HB.out (by have := HI.out.2.2.1; intro b hb; simp at hb; omega), labelI_below w pre _ W _ HI.out (allWords_snoc HI.out.1 (HL.out ▸ hw)) HB.out⟩
 case done =>
  rintro D ys W hD hS hI hK
  have c0 := cell_of_one hI.2.1
  have f0 := free_of_one hI.2.1
  have HI := Lib.hid hI
  clear hI
  gi_wp2_with fail
  have hK' := (KeepsOthers.setCell W ⟨w.heap.size, 0, none⟩ (.bool true)).same D _ hK rfl
  refine ⟨by simp, .inl ⟨_, _, rfl, run_takeDeferred hK', ?_⟩⟩
  have hc5 := cell_kept (cell_of_one (one_setCell (u := .bool true) HI.out.2.1)) (grownBy_putObj' _ D (.deferred none)) (fun r e => by cases e; exact ⟨_, hK', rfl⟩)
  refine ⟨.bool true, ?_, by rw [labelL_all h hS HI.out.1], (HI.out.2.2.2.setCell (p := ⟨w.heap.size, 0, none⟩) (Nat.le_refl _) _).trans (belowK_b (w := w) (Nat.le_refl _) _ D _ _ (by omega) hK' rfl rfl)⟩
  simp [results, Tryz.f46, go_sem, hc5]
 case stop =>
  rintro D c pre W hD hpre ⟨rfl, hbad, hcr, _, hB⟩ hK
  gi_wp2_with fail
  refine ⟨by simp, .inl ⟨_, _, rfl, run_takeDeferred hK, ?_⟩⟩
  have hc5 := cell_kept (cell_of_one hcr) (grownBy_putObj' _ D (.deferred none)) (fun r e => by cases e; exact ⟨_, hK, rfl⟩)
  refine ⟨.bool false, ?_, by rw [labelL_bad hpre hbad], hB.trans (belowK_b (w := w) (Nat.le_refl _) W D _ _ (by omega) hK rfl rfl)⟩
  simp [results, Tryz.f46, go_sem, hc5]
theorem label_any (s : ByteArray) (w : World) :
  Calls Tryz.prog 46 #[.string s] w fun e w' => e = .returned (.bool (labelL s.data.toList)) ∧ Below w.heap.size w w' := by
 rcases Nat.lt_or_ge 90 s.size with h | h
 ·exact label_long s w h
 ·exact label_short s w h
end
section
open Go.RowKit
mutual
def preE : Nat → Ex → List (Nat × Ex)
 | d, .mk k n m i dn s => (d, .mk k n m i dn s) :: preL (d + 1) s
def preL : Nat → List Ex → List (Nat × Ex)
 | _, [] => []
 | d, e :: es => preE d e ++ preL d es
end
theorem preE_eq (d : Nat) (t : Ex) : preE d t = (d, t) :: preL (d + 1) t.sub := by cases t; simp [preE, Ex.sub]
mutual
theorem preE_length : ∀ (d : Nat) (t : Ex), (preE d t).length = nodesE t
 | d, .mk k n m i dn s => by simp [preE, nodesE, preL_length (d + 1) s]
theorem preL_length : ∀ (d : Nat) (l : List Ex), (preL d l).length = nodesL l
 | d, [] => by simp [preL, nodesL]
 | d, e :: es => by simp [preL, nodesL, preE_length d e, preL_length d es]
end
def restL : List (List Ex) → List (Nat × Ex)
 | [] => []
 | r :: st => preL (st.length + 2) r ++ restL st
theorem restL_pop (st : List (List Ex)) : restL ([] :: st) = restL st := by simp [restL, preL]
theorem restL_push (e : Ex) (es : List Ex) (st : List (List Ex)) : restL ((e :: es) :: st) = (st.length + 2, e) :: restL (e.sub :: es :: st) := by
 simp only [restL, preL, preE_eq, List.length_cons, List.cons_append, List.append_assoc]
def RowsAt (W : World) (B : Nat) : List (List Ex) → List Value → Prop
 | [], [] => True
 | r :: st, y :: ys => SubAt W B r y ∧ RowsAt W B st ys
 | _, _ => False
theorem rowsAt_length {W : World} {B : Nat} : ∀ {st : List (List Ex)} {ys : List Value}, RowsAt W B st ys → ys.length = st.length
 | [], [], _ => rfl
 | r :: st, y :: ys, h => by simp [rowsAt_length h.2]
 | [], y :: ys, h => h.elim
 | r :: st, [], h => h.elim
theorem rowsAt_cons {W : World} {B : Nat} {r : List Ex} {st : List (List Ex)} {ys : List Value} (h : RowsAt W B (r :: st) ys) : ∃ y ys', ys = y :: ys' ∧ SubAt W B r y ∧ RowsAt W B st ys' := by
 cases ys with
 | nil => exact h.elim
 | cons y ys => exact ⟨y, ys, rfl, h.1, h.2⟩
theorem subAt_tail {W : World} {B : Nat} {e : Ex} {es : List Ex} {b off cap n : Nat} (h : SubAt W B (e :: es) (.slice (some ⟨b, off, none⟩) n cap)) : SubAt W B es (.slice (some ⟨b, off + 6, none⟩) es.length (cap - 1)) := by
 obtain ⟨p, cap', he, hc, hr⟩ := h
 simp only [Value.slice.injEq] at he
 obtain ⟨rfl, rfl, rfl⟩ := he
 refine ⟨_, _, rfl, by simp at hc; omega, fun hp => ?_⟩
 obtain ⟨b', off', h1, h2, h3⟩ := hr (by simp)
 simp only [Option.some.injEq, Addr.mk.injEq, and_true] at h1
 obtain ⟨rfl, rfl⟩ := h1
 exact ⟨_, _, rfl, h2, (rowAt_cons.1 h3).2⟩
theorem subAt_none {W : World} {B : Nat} (p : Option Addr) (cap : Nat) : SubAt W B [] (.slice p 0 cap) := ⟨p, cap, rfl, by simp, fun h => by simp at h⟩
structure ItStep (base : Nat) (A B : World) : Prop where
 below : Below base A B
 others : KeepsOthers A B
theorem ItStep.refl (base : Nat) (A : World) : ItStep base A A := ⟨Below.refl _ _, KeepsOthers.refl _⟩
theorem ItStep.alloc {base : Nat} {A B : World} (h : ItStep base A B) (hb : base ≤ B.heap.size) (o : Obj) : ItStep base A (B.alloc o) := ⟨h.below.alloc hb o, h.others.trans (KeepsOthers.alloc _ _)⟩
theorem ItStep.setCell {base : Nat} {A B : World} (h : ItStep base A B) {p : Addr} (hp : base ≤ p.block) (v : Value) : ItStep base A (B.setCell p v) := ⟨h.below.setCell hp v, h.others.trans (KeepsOthers.setCell _ _ _)⟩
theorem ItStep.grown {base : Nat} {A B C : World} {g : Nat} {cur : Array Value} {T : TypeId} {f : Nat × Nat} (h : ItStep base A B) (hg : B.grownBy C (some g)) (hb : base ≤ g) (hbs : base ≤ B.heap.size) (hc : B.heap[g]? = some (.cells cur T f)) : ItStep base A C :=
 ⟨h.below.trans ((Below.refl _ _).grown hg hbs (fun k e => by cases e; exact hb)), h.others.trans (KeepsOthers.of_grownBy hg (fun j o e ho => by cases e; rw [hc] at ho; cases ho; rfl))⟩
structure KeepOut (lo hi : Nat) (A B : World) : Prop where
 size : A.heap.size ≤ B.heap.size
 same : ∀ k o, A.heap[k]? = some o → o.isCells = true → (k < lo ∨ hi ≤ k) → B.heap[k]? = some o
theorem KeepOut.trans {lo hi : Nat} {A B C : World} (h : KeepOut lo hi A B) (k : KeepOut lo hi B C) : KeepOut lo hi A C :=
 ⟨Nat.le_trans h.size k.size, fun i o hi' ho hc => k.same i o (h.same i o hi' ho hc) ho hc⟩
theorem KeepOut.putObj {lo hi : Nat} (W : World) (l : Nat) (o o' : Obj) (hl : W.heap[l]? = some o) (ho : o.isCells = false) : KeepOut lo hi W (W.putObj l o') :=
 ⟨by simp [World.putObj], fun k x hk hx _ => (World.putObj_heap_other (by rintro rfl; rw [hl] at hk; cases hk; rw [ho] at hx; cases hx)).trans hk⟩
theorem KeepOut.below {lo hi : Nat} {A B : World} (h : Below A.heap.size A B) : KeepOut lo hi A B :=
 ⟨h.size, fun k _ hk _ _ => (h.block k (Array.getElem?_eq_some_iff.1 hk).1).trans hk⟩
theorem KeepOut.setCell {lo hi : Nat} {A B : World} (h : KeepOut lo hi A B) {p : Addr} (hp : lo ≤ p.block ∧ p.block < hi) (v : Value) : KeepOut lo hi A (B.setCell p v) :=
 ⟨by simpa [World.setCell] using h.size, fun k o hk ho hc => (Below.heap_setCell _ _ _ _ (by rintro rfl; omega)).trans (h.same k o hk ho hc)⟩
theorem keepOut_cell {lo hi : Nat} {A B : World} (h : KeepOut lo hi A B) {p : Addr} {v : Value} (hv : A.cell? p = some v) (hp : p.block < lo ∨ hi ≤ p.block) : B.cell? p = some v := by
 obtain ⟨o, ho, hc⟩ := cells_of_cell hv
 rw [← hv]
 exact World.cell?_of_block ((h.same _ o ho hc hp).trans ho.symm)
def SameLow (lo : Nat) (W A : World) : Prop := ∀ b off, b < lo → ∀ v, W.cell? ⟨b, off, none⟩ = some v → A.cell? ⟨b, off, none⟩ = some v
theorem SameLow.keep {lo hi : Nat} {W A B : World} (h : SameLow lo W A) (hk : KeepOut lo hi A B) : SameLow lo W B := fun b off hb v hv => keepOut_cell hk (h b off hb v hv) (.inl hb)
theorem SameLow.step {lo base : Nat} {W A B : World} (h : SameLow lo W A) (hk : ItStep base A B) (hl : lo ≤ base) : SameLow lo W B := fun b off hb v hv => (hk.below.cell (p := ⟨b, off, none⟩) (by show b < base; omega)).trans (h b off hb v hv)
def StackAt (base T : Nat) (W : World) (lo : Nat) (st : List (List Ex)) (v : Value) (wr : World) : Prop :=
 ∃ g cap cur ys, v = .slice (some ⟨g, 0, none⟩) st.length cap ∧ base ≤ g ∧ wr.heap[g]? = some (.cells cur T (0, 0)) ∧ st.length ≤ cap ∧ cap ≤ maxLen ∧ cur.size = cap ∧ cur.toList.take st.length = ys.reverse ∧ RowsAt W lo st ys
theorem stack_owns {base T lo : Nat} {W wr : World} {st : List (List Ex)} {v : Value} (h : StackAt base T W lo st v wr) : ∃ g cap ys, v = .slice (some ⟨g, 0, none⟩) st.length cap ∧ base ≤ g ∧ wr.ownsRow base T 1 v st.length ys.reverse ∧ RowsAt W lo st ys := by
 obtain ⟨g, cap, cur, ys, rfl, hb, hc, h1, h2, h3, h4, h5⟩ := h
 refine ⟨g, cap, ys, rfl, hb, ⟨by simp [rowsAt_length h5], .inr ⟨g, cap, cur, rfl, hb, hc, h1, h2, by omega, by simpa using h4⟩⟩, h5⟩
theorem stack_of_owns {base T lo : Nat} {W wr : World} {st : List (List Ex)} {ys : List Value} {v : Value} (ho : wr.ownsRow base T 1 v st.length ys.reverse) (hn : v ≠ .slice none 0 0) (hr : RowsAt W lo st ys) : StackAt base T W lo st v wr := by
 obtain ⟨_, h | ⟨g, cap, cur, rfl, hb, hc, h1, h2, h3, h4⟩⟩ := ho
 ·exact absurd h.1 hn
 ·exact ⟨g, cap, cur, ys, rfl, hb, hc, h1, h2, by omega, by simpa using h4, hr⟩
theorem stack_keep {base T lo hi : Nat} {W A B : World} {st : List (List Ex)} {v : Value} (h : StackAt base T W lo st v A) (hk : KeepOut lo hi A B) (hh : hi ≤ base) : StackAt base T W lo st v B := by
 obtain ⟨g, cap, cur, ys, rfl, hb, hc, h1⟩ := h
 exact ⟨g, cap, cur, ys, rfl, hb, hk.same g _ hc rfl (.inr (by omega)), h1⟩
end
section
open Go.RowKit Go.Shelf
attribute [local go_sem] Oper.semAt_some
abbrev ItN := Nat × Ex × Option Addr × Nat
abbrev valN (x : ItN) : Value := .agg #[.int .i64 x.2.1.kind, .string x.2.1.name, .string x.2.1.more, .int .i64 x.2.1.int, .int .i64 x.2.1.den, .slice x.2.2.1 x.2.1.sub.length x.2.2.2]
def projN (x : ItN) : Nat × Ex := (x.1, x.2.1)
def NodesAll (t : Ex) (xs : List (ItN)) : Prop := xs.map projN = preE 1 t
def NodesPre (t : Ex) (xs : List (ItN)) : Prop := xs.map projN <+: preE 1 t
def NodesRel (base T lo : Nat) (W0 : World) (t : Ex) (J : List (ItN) → World → Prop) (m : Nat) (v : Value) (wr : World) : Prop :=
 ∃ pre st, StackAt base T W0 lo st v wr ∧ J pre wr ∧ SameLow lo W0 wr ∧ base ≤ wr.heap.size ∧ st.length ≤ pre.length ∧ pre.map projN ++ restL st = preE 1 t ∧ m = 2 * (restL st).length + st.length
theorem take_rev {l ys : List Value} {y : Value} {n : Nat} (h : l.take (n + 1) = (y :: ys).reverse) (hl : ys.length = n) : l.take n = ys.reverse := by
 have e : l.take n = (l.take (n + 1)).take n := by rw [List.take_take, Nat.min_eq_left (by omega)]
 rw [e, h, List.reverse_cons, List.take_left' (by simpa using hl)]
theorem stack_top {base T lo : Nat} {W0 wr : World} {r : List Ex} {st : List (List Ex)} {v : Value} (h : StackAt base T W0 lo (r :: st) v wr) : ∃ g cap y, v = .slice (some ⟨g, 0, none⟩) (st.length + 1) cap ∧ base ≤ g ∧ g < wr.heap.size ∧ st.length + 1 ≤ cap ∧ cap ≤ maxLen ∧ wr.cell? ⟨g, st.length, none⟩ = some y ∧ wr.frozen? ⟨g, st.length, none⟩ = false ∧ SubAt W0 lo r y ∧
  StackAt base T W0 lo st (.slice (some ⟨g, 0, none⟩) st.length cap) wr := by
 obtain ⟨g, cap, cur, ys, rfl, hb, hc, h1, h2, h3, h4, h5⟩ := h
 obtain ⟨y, ys', rfl, hy, hr⟩ := rowsAt_cons h5
 have hl := rowsAt_length hr
 have h1' : st.length + 1 ≤ cap := by simpa using h1
 have hty : cur[st.length]? = some y := by
  have : (cur.toList.take (st.length + 1))[st.length]? = some y := by
   have h4' : cur.toList.take (st.length + 1) = (y :: ys').reverse := h4
   rw [h4', List.reverse_cons, List.getElem?_append_right (by simp; omega)]; simp [hl]
  rw [List.getElem?_take_of_lt (by omega)] at this
  simpa using this
 refine ⟨g, cap, y, rfl, hb, (Array.getElem?_eq_some_iff.1 hc).1, h1', h2, ?_, ?_, hy, g, cap, cur, ys', rfl, hb, hc, by omega, h2, h3, ?_, hr⟩
 ·simp [World.cell?, hc, hty]
 ·simp [World.frozen?, hc]
 ·have h4' : cur.toList.take (st.length + 1) = (y :: ys').reverse := h4
  exact take_rev h4' hl
theorem stack_one {base T lo : Nat} {W0 W3 : World} {sub : List Ex} {sv : Value} (hs : SubAt W0 lo sub sv) (hz : base ≤ W3.heap.size) : StackAt base T W0 lo [sub] (.slice (some ⟨W3.heap.size, 0, none⟩) 1 1) (W3.alloc (.cells #[sv] T)) :=
 ⟨W3.heap.size, 1, #[sv], [sv], rfl, hz, World.alloc_heap_new _ _, Nat.le_refl _, by unfold maxLen; omega, rfl, rfl, hs, trivial⟩
theorem stack_set {base T lo : Nat} {W0 wr : World} {r r' : List Ex} {st : List (List Ex)} {g cap n : Nat} {y : Value} (h : StackAt base T W0 lo (r :: st) (.slice (some ⟨g, 0, none⟩) n cap) wr) (hy : SubAt W0 lo r' y) : StackAt base T W0 lo (r' :: st) (.slice (some ⟨g, 0, none⟩) (st.length + 1) cap) (wr.setCell ⟨g, st.length, none⟩ y) := by
 obtain ⟨g', cap', cur, ys, he, hb, hc, h1, h2, h3, h4, h5⟩ := h
 simp only [Value.slice.injEq, Option.some.injEq, Addr.mk.injEq, and_true] at he
 obtain ⟨rfl, -, rfl⟩ := he
 obtain ⟨y0, ys', rfl, hy0, hr⟩ := rowsAt_cons h5
 have hl := rowsAt_length hr
 have h1' : st.length + 1 ≤ cap := by simpa using h1
 refine ⟨g, cap, cur.setIfInBounds st.length y, y :: ys', by simp, hb, ?_, h1, h2, by simpa using h3, ?_, hy, hr⟩
 ·have hlt := (Array.getElem?_eq_some_iff.1 hc).1
  have hb := (Array.getElem?_eq_some_iff.1 hc).2
  simp [World.setCell, Array.getElem_modify, hlt, hb]
 ·have h4' : cur.toList.take (st.length + 1) = (y0 :: ys').reverse := h4
  have e1 : cur.toList.take st.length = ys'.reverse := take_rev h4' hl
  show (cur.setIfInBounds st.length y).toList.take (st.length + 1) = (y :: ys').reverse
  rw [List.take_succ_eq_append_getElem (by simp; omega)]
  simp [e1, List.take_set_of_le]
theorem least_lt {p : Nat → Prop} {m M : Nat} (hp : p m) (hlt : m < M) : leastOf p < M := Nat.lt_of_le_of_lt ((leastOf_spec ⟨m, hp⟩).2 m hp) hlt
theorem stack_alloc {base T lo : Nat} {W0 wr : World} {st : List (List Ex)} {v : Value} (h : StackAt base T W0 lo st v wr) (o : Obj) : StackAt base T W0 lo st v (wr.alloc o) := by
 obtain ⟨g, cap, cur, ys, rfl, hb, hc, h1⟩ := h
 exact ⟨g, cap, cur, ys, rfl, hb, (Below.heap_alloc _ _ _ (Array.getElem?_eq_some_iff.1 hc).1).trans hc, h1⟩
theorem row_head {W0 wr : World} {lo : Nat} {e : Ex} {es : List Ex} {y : Value} (h : SubAt W0 lo (e :: es) y) (hl : SameLow lo W0 wr) : ∃ b off cy cv, y = .slice (some ⟨b, off, none⟩) (es.length + 1) cy ∧ es.length + 1 ≤ cy ∧ b < lo ∧ wr.cell? ⟨b, off, none⟩ = some (.int .i64 e.kind) ∧ wr.cell? ⟨b, off + 1, none⟩ = some (.string e.name) ∧ wr.cell? ⟨b, off + 2, none⟩ = some (.string e.more) ∧ wr.cell? ⟨b, off + 3, none⟩ = some (.int .i64 e.int) ∧
  wr.cell? ⟨b, off + 4, none⟩ = some (.int .i64 e.den) ∧ wr.cell? ⟨b, off + 5, none⟩ = some cv ∧ SubAt W0 lo e.sub cv := by
 obtain ⟨p, cap, rfl, hc, hr⟩ := h
 obtain ⟨b, off, rfl, hb, hrow⟩ := hr (by simp)
 obtain ⟨cv, h0, h1, h2, h3, h4, h5, h6⟩ := (rowAt_cons.1 hrow).1
 exact ⟨b, off, cap, cv, rfl, by simpa using hc, hb, hl _ _ hb _ h0, hl _ _ hb _ h1, hl _ _ hb _ h2, hl _ _ hb _ h3, hl _ _ hb _ h4, hl _ _ hb _ h5, h6⟩
theorem cell1_at (w : World) (T : TypeId) (x : Value) : ∀ j u, [x][j]? = some u → (w.alloc (.cells #[x] T)).cell? ((⟨w.heap.size, 0, none⟩ : Addr).add j) = some u := by
 intro j u h
 cases j with
 | zero => simp at h; subst h; simp [Addr.add, go_sem]
 | succ j => simp at h
theorem stack_push {base T lo : Nat} {W0 w6 : World} {e : Ex} {es : List Ex} {st : List (List Ex)} {ys : List Value} {v' cv : Value} {L : Nat} (hL : st.length = L) (ho : w6.ownsRow base T 1 v' (L + 1 + 1) (ys.reverse ++ [cv])) (hn : v' ≠ .slice none 0 0) (hr : RowsAt W0 lo (es :: st) ys) (hc : SubAt W0 lo e.sub cv) :
  StackAt base T W0 lo (e.sub :: es :: st) v' w6 := by
 refine stack_of_owns (ys := cv :: ys) ?_ hn ⟨hc, hr⟩
 rw [List.reverse_cons, List.length_cons, List.length_cons, hL]
 exact ho
end
end Go.Proofs.YtnjedgpidalioaaGreatDoor
