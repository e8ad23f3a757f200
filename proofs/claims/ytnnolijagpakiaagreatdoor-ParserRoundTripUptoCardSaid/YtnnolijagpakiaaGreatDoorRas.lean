/- Texts of this proof, part 19: what the proof uses of them. -/
import Derived.Test.YtnnolijagpakiaaGreatDoorRar
import Derived.Tactics
import Derived.Tactics2
import Derived.Defers
import Derived.Recover
import Derived.Laws.Pointers
import Derived.Test.YtnnolijagpakiaaGreatDoorRap
import Derived.Test.YtnnolijagpakiaaGreatDoorRag
import Derived.Deep.LoopGhost
import Derived.OwnWalkIn
import Derived.LoopIn
import Derived.Lib.Hide
namespace Go.Proofs.YtnnolijagpakiaaGreatDoor
section
open Go Go.RowKit
variable {P : Program} {F : Nat → Nat → Prop} {w : World} {m : Nat → Nat} {tv : Nat → Value} {L : Lent}
abbrev Lq (q : Nat) (b : Blk) (L : Lent) : Lent := ⟨(q, some b) :: L.blks, L.toks⟩
abbrev Lp (o : Obj) (L : Lent) : Lent := Lq 903 (.obj o) L
theorem Lq_blk {q : Nat} {b0 : Blk} {L : Lent} (_hn : look L.blks q = none) {r : Nat} {b : Blk} : (Lq q b0 L).blk r b ↔ (r = q ∧ b = b0) ∨ (r ≠ q ∧ L.blk r b) := by
 unfold Lent.blk
 show look ((q, some b0) :: L.blks) r = _ ↔ _
 rw [look]
 by_cases h : q = r
 ·subst h
  rw [if_pos rfl]
  constructor
  ·intro h; cases h; exact .inl ⟨rfl, rfl⟩
  ·rintro (⟨_, rfl⟩ | ⟨h, _⟩)
   ·rfl
   ·exact absurd rfl h
 ·rw [if_neg h]
  constructor
  ·intro h2; exact .inr ⟨fun e => h e.symm, h2⟩
  ·rintro (⟨h2, _⟩ | ⟨_, h2⟩)
   ·exact absurd h2.symm h
   ·exact h2
theorem blk_ne {q : Nat} {L : Lent} (hn : look L.blks q = none) {r : Nat} {b : Blk} (h : L.blk r b) : r ≠ q := fun e => by
 subst e; unfold Lent.blk at h; rw [hn] at h; cases h
theorem ownsRow_same {w w' : World} {ty : TypeId} {st n : Nat} {v : Value} {xs : List Value} (h : w.ownsRow 0 ty st v n xs) (hb : ∀ x, v.ownBlock = some x → w'.heap[x]? = w.heap[x]?) : w'.ownsRow 0 ty st v n xs := ownsRow_block h hb
theorem LentOk.keep {F' : Nat → Nat → Prop} {m' : Nat → Nat} {w' : World} (q : Nat) (h : LentOk P F m tv w L) (hn : look L.blks q = none) (hm : ∀ r, r ≠ q → m' r = m r) (hment : ∀ r b, L.blk r b → b.ment q = false) (hb : ∀ x, L.at m tv x → w'.heap[x]? = w.heap[x]?)
  (hFF : ∀ b o, F b o → F' b o) (hFn : ∀ b o, F' b o → F b o ∨ ¬ L.at m tv b) (hF : ∀ b o, F b o → w'.heap[b]? = w.heap[b]?) : LentOk P F' m' tv w' L := by
 have hmr : ∀ {r b}, L.blk r b → m' r = m r := fun {r b} hr => hm r (blk_ne hn hr)
 have e : Ext (fun r => r = q) ⟨m, tv, F⟩ L.tk w ⟨m', tv, F'⟩ L.tk w' := ⟨hFF, fun b o u hf hu => (cell_block (hF b o hf)).trans hu, hm, fun r _ n' hn' => ⟨n', hn', Nat.le_refl _, fun _ => rfl⟩, fun b es c hf hu => (hF b 0 hf).trans hu⟩
 refine ⟨h.nm, h.tnm, fun r b hr => by rw [hmr hr]; exact h.lo r b hr, h.tlo, fun r b hr => ?_, fun r k hr => ?_, fun r b hr o hf => ?_, fun r k x hr hx o hf => ?_, fun r b r' b' hr hr' hne => by rw [hmr hr, hmr hr']; exact h.inj r b r' b' hr hr' hne, fun r k r' b x hr hr' hx => by rw [hmr hr']; exact h.tokblk r k r' b x hr hr' hx, h.toktok⟩
 ·rw [hmr hr]
  exact (h.at_ r b hr).mono e (fun q' hq e1 => by subst e1; rw [hment r b hr] at hq; cases hq) (hb _ (.inl ⟨r, b, hr, rfl⟩))
 ·obtain ⟨xs, h1, h2⟩ := h.tat r k hr
  exact ⟨xs, ownsRow_same h1 fun x hx => hb x (.inr ⟨r, k, hr, hx⟩), fun rows hr' => ⟨(h2 rows hr').1, fun i hi j hj => by
   obtain ⟨u, h3, h4⟩ := (h2 rows hr').2 i hi j hj
   exact ⟨u, h3, h4.mono hFF fun b o u hf hu => (cell_block (hF b o hf)).trans hu⟩⟩⟩
 ·rw [hmr hr] at hf
  rcases hFn _ _ hf with h1 | h1
  ·exact h.nF r b hr o h1
  ·exact h1 (.inl ⟨r, b, hr, rfl⟩)
 ·rcases hFn _ _ hf with h1 | h1
  ·exact h.tF r k x hr hx o h1
  ·exact h1 (.inr ⟨r, k, hr, hx⟩)
theorem Lent.at_congr {m' : Nat → Nat} {q : Nat} (hn : look L.blks q = none) (hm : ∀ r, r ≠ q → m' r = m r) {x : Nat} : L.at m' tv x ↔ L.at m tv x := by
 unfold Lent.at
 refine or_congr ⟨fun ⟨r, b, h, e⟩ => ⟨r, b, h, by rw [e, hm r (blk_ne hn h)]⟩, fun ⟨r, b, h, e⟩ => ⟨r, b, h, by rw [e, hm r (blk_ne hn h)]⟩⟩ Iff.rfl
theorem LentOk.cons {b0 : Blk} (q : Nat) (h : LentOk P F m tv w L) (hq : fixN q = true) (hn : look L.blks q = none) (ho : BlkAt ⟨m, tv, F⟩ L.tk w (m q) b0) (hlo : P.globals.size ≤ m q) (hat : ¬ L.at m tv (m q)) (hF : ∀ j, ¬ F (m q) j) : LentOk P F m tv w (Lq q b0 L) := by
 refine ⟨fun r b hr => ?_, h.tnm, fun r b hr => ?_, h.tlo, fun r b hr => ?_, h.tat, fun r b hr => ?_, h.tF, fun r b r' b' hr hr' hne => ?_, fun r k r' b x hr hr' hx => ?_, h.toktok⟩
 ·rcases (Lq_blk hn).1 hr with ⟨rfl, _⟩ | ⟨_, h1⟩
  ·exact hq
  ·exact h.nm r b h1
 ·rcases (Lq_blk hn).1 hr with ⟨rfl, _⟩ | ⟨_, h1⟩
  ·exact hlo
  ·exact h.lo r b h1
 ·rcases (Lq_blk hn).1 hr with ⟨rfl, rfl⟩ | ⟨_, h1⟩
  ·exact ho
  ·exact h.at_ r b h1
 ·rcases (Lq_blk hn).1 hr with ⟨rfl, _⟩ | ⟨_, h1⟩
  ·exact hF
  ·exact h.nF r b h1
 ·rcases (Lq_blk hn).1 hr with ⟨rfl, _⟩ | ⟨h2, h1⟩
  ·rcases (Lq_blk hn).1 hr' with ⟨rfl, _⟩ | ⟨_, h1'⟩
   ·exact absurd rfl hne
   ·exact fun e => hat (.inl ⟨r', b', h1', e⟩)
  ·rcases (Lq_blk hn).1 hr' with ⟨rfl, _⟩ | ⟨_, h1'⟩
   ·exact fun e => hat (.inl ⟨r, b, h1, e.symm⟩)
   ·exact h.inj r b r' b' h1 h1' hne
 ·rcases (Lq_blk hn).1 hr' with ⟨rfl, _⟩ | ⟨_, h1'⟩
  ·exact fun e => hat (.inr ⟨r, k, hr, by rw [← e]; exact hx⟩)
  ·exact h.tokblk r k r' b x hr h1' hx
theorem LentOk.uncons {b0 : Blk} {q : Nat} (h : LentOk P F m tv w (Lq q b0 L)) (hn : look L.blks q = none) : LentOk P F m tv w L ∧ BlkAt ⟨m, tv, F⟩ L.tk w (m q) b0 ∧ ¬ L.at m tv (m q) ∧ (∀ j, ¬ F (m q) j) ∧ P.globals.size ≤ m q := by
 have h903 : (Lq q b0 L).blk q b0 := (Lq_blk hn).2 (.inl ⟨rfl, rfl⟩)
 have hb : ∀ {r b}, L.blk r b → (Lq q b0 L).blk r b := fun {r b} hr => (Lq_blk hn).2 (.inr ⟨blk_ne hn hr, hr⟩)
 refine ⟨⟨fun r b hr => h.nm r b (hb hr), h.tnm, fun r b hr => h.lo r b (hb hr), h.tlo, fun r b hr => h.at_ r b (hb hr), h.tat, fun r b hr => h.nF r b (hb hr), h.tF, fun r b r' b' hr hr' => h.inj r b r' b' (hb hr) (hb hr'), fun r k r' b x hr hr' => h.tokblk r k r' b x hr (hb hr'), h.toktok⟩, h.at_ q _ h903, ?_, h.nF q _ h903, h.lo q _ h903⟩
 rintro (⟨r, b, hr, e⟩ | ⟨r, k, hr, e⟩)
 ·exact h.inj q _ r b h903 (hb hr) (fun e => blk_ne hn hr e.symm) e
 ·exact h.tokblk r k q _ _ hr h903 e rfl
theorem Lq_at {b0 : Blk} {q : Nat} (hn : look L.blks q = none) {x : Nat} : (Lq q b0 L).at m tv x ↔ x = m q ∨ L.at m tv x := by
 unfold Lent.at
 constructor
 ·rintro (⟨r, b, hr, e⟩ | h)
  ·rcases (Lq_blk hn).1 hr with ⟨rfl, _⟩ | ⟨_, h1⟩
   ·exact .inl e
   ·exact .inr (.inl ⟨r, b, h1, e⟩)
  ·exact .inr (.inr h)
 ·rintro (rfl | ⟨r, b, hr, e⟩ | h)
  ·exact .inl ⟨q, _, (Lq_blk hn).2 (.inl ⟨rfl, rfl⟩), rfl⟩
  ·exact .inl ⟨r, b, (Lq_blk hn).2 (.inr ⟨blk_ne hn hr, hr⟩), e⟩
  ·exact .inr h
theorem LentOk.putRec {o o' : Obj} (h : LentOk P F m tv w (Lp o L)) (hn : look L.blks 903 = none) (hment : ∀ r b, L.blk r b → b.ment 903 = false) : LentOk P F m tv (w.putObj (m 903) o') (Lp o' L) := by
 obtain ⟨h1, h2, h3, h4, h5⟩ := h.uncons hn
 have hlt : m 903 < w.heap.size := (Array.getElem?_eq_some_iff.1 h2).1
 refine LentOk.cons 903 (h1.keep 903 hn (fun _ _ => rfl) hment (fun x hx => World.putObj_heap_other fun e => h3 (e ▸ hx)) (fun _ _ h => h) (fun _ _ h => .inl h) fun b o hf => World.putObj_heap_other fun e => h4 o (e ▸ hf)) rfl hn (World.putObj_heap_same hlt) h5 h3 h4
theorem size_putObj (w : World) (r : Nat) (o : Obj) : (w.putObj r o).heap.size = w.heap.size := by simp [World.putObj]
theorem LRel.putRec {o0 o o' : Obj} {F' : Nat → Nat → Prop} {w' : World} {m' : Nat → Nat} {tv' : Nat → Value} {L' : Lent} (h : LRel P F w m tv (Lp o0 L) F' w' m' tv' (Lp o L')) (hn0 : look L.blks 903 = none) (hn : look L'.blks 903 = none) (hment : ∀ r b, L'.blk r b → b.ment 903 = false) :
  LRel P F w m tv (Lp o0 L) F' (w'.putObj (m' 903) o') m' tv' (Lp o' L') := by
 have hm : m' 903 = m 903 := h.fix 903 rfl
 refine ⟨⟨h.below.os, h.below.tape, h.below.output, by rw [size_putObj]; exact h.below.size, fun k hk hx => ?_⟩, h.ok.putRec hn hment, h.fix, h.ver, fun x hx => ?_, h.sub, fun b o hf => by rw [size_putObj]; exact h.new b o hf⟩
 ·rw [World.putObj_heap_other (fun e => hx (by rw [e, hm]; exact (Lq_at hn0).2 (.inl rfl)))]
  exact h.below.block k hk hx
 ·exact h.at_ x ((Lq_at hn).2 ((Lq_at hn).1 hx))
theorem wpIn_range_lent {g : Operand} {ps : Array Tmp} {assign body : Code} {Q : Exit → Act → World → Prop} {a : Act} {gf : Nat} {lb : Array Value} (hg : a.eval g = .func (.func gf) #[] lb) (eg : ∀ args w, (callFunc gf args).run P w = .ok (.enter gf args) w)
  (N : Nat) (encs : Nat → Array Value) (hps : ∀ k, (encs k).size = ps.size) (Pre : World → Prop)
  (hit : ∀ (l : Nat) (J : Nat → World → Prop) (W : World), (∀ k W, J k W → Pre W) → (∀ k W, k < N → J k W → YieldAt Fence.wide 0 P l (encs k) W fun e B => e = .returned (.bool true) ∧ J (k + 1) B) → J 0 W → CallsIn Fence.wide 1 P gf (#[.func (.yield l) #[] #[]] ++ lb) W fun e B => (∃ v, e = .returned v) ∧ J N B)
  (L : Nat → Lent) (hF : ∀ b o, F b o → b < w.heap.size) (hG : Glob P w) (hLok : LentOk P F m tv w (L 0)) (hpre : ∀ W, (∀ b o, F b o → W.heap[b]? = w.heap[b]?) → Pre W)
  (hn : ∀ k, look (L k).blks 903 = none) (hment : ∀ k r b, (L k).blk r b → b.ment 903 = false) (bs ks : List Nat) (_hb3 : bs.contains 903 = false) (hks : ∀ k, ks.all (fun r => match look (L k).toks r with | some (some _) => true | _ => false) = true)
  (envs : Nat → List (Nat × AV)) (hen3 : ∀ k t, ((⟨envs k, [], []⟩ : St).get t).ment 903 = false) (henv : ∀ k F' W m' tv', k < N → LRel P F w m tv (L 0) F' W m' tv' (L k) → ∀ t, Has ⟨m', tv', F'⟩ (L k).tk W ((⟨envs k, [], []⟩ : St).get t) (((ps.zip (encs k)).foldl (fun t (p, v) => t.setIfInBounds p v) a.tmps).getD t undef))
  (hround : ∀ k, k < N → ∀ (A : Base P) (o1 o2 : Obj), A.N = a.tmps.size → SatC P A assign ⟨envs k, (903, some (.obj o1)) :: (L k).blks, (L k).toks⟩ fun e σ1 => e = .normal ∧ σ1.blk 903 = some (.obj o1) ∧
   SatC P A body (σ1.setBlk 903 (some (.obj o2))) fun e σ2 => e = .normal ∧ σ2.blk 903 = some (.obj o2) ∧ lentChk σ2 bs ks = true ∧ σ2.lends bs ks = L (k + 1))
  (hdone : ∀ D F' W m' tv', w.heap.size ≤ D → LRel P F w m tv (L 0) F' W m' tv' (L N) → W.heap[D]? = some (.deferred (some [])) → (∀ o, ¬ F' D o) → ¬ (L N).at m' tv' D → Q .normal { a with defers := { target := .collected D, args := #[] } :: a.defers } W) :
  (Code.rangeFunc g ps assign body).wpIn Fence.wide 2 P Q a w := by
 refine wpIn_rangeFunc ?_
 intro fn hfn
 -- the two blocks that the statement lays: one for the rounds' deferred calls, then the record of the loop
 obtain ⟨r0, hr0⟩ : ∃ r0 : Loop, { state := .ready, pending := none, fn, tmps := a.tmps, params := ps, assign, body, defers := w.heap.size } = r0 := ⟨_, rfl⟩
 have hst : r0.state = .ready := by rw [← hr0]
 have hpe : r0.pending = none := by rw [← hr0]
 have hrf : r0.fn = fn := by rw [← hr0]
 have hrt : r0.tmps = a.tmps := by rw [← hr0]
 have hrp : r0.params = ps := by rw [← hr0]
 have hra : r0.assign = assign := by rw [← hr0]
 have hrb : r0.body = body := by rw [← hr0]
 have hback : ({ r0 with state := .ready, pending := none } : Loop) = r0 := by rw [← hr0]
 obtain ⟨W1, hW1⟩ : ∃ W1, (w.alloc (.deferred (some []))).alloc (.loop r0) = W1 := ⟨_, rfl⟩
 have hbel : Below w.heap.size w W1 := by rw [← hW1]; exact ((Below.refl _ _).alloc (Nat.le_refl _) _).alloc (by simp) _
 have hs1 : W1.heap.size = w.heap.size + 2 := by rw [← hW1]; simp
 have hL1 : W1.heap[w.heap.size + 1]? = some (.loop r0) := by
  have := World.alloc_heap_new (w.alloc (.deferred (some []))) (.loop r0)
  rw [World.size_alloc, hW1] at this
  exact this
 have hK1 : W1.heap[w.heap.size]? = some (.deferred (some [])) := by
  rw [← hW1]; exact (Below.heap_alloc _ _ _ (by simp)).trans (World.alloc_heap_new w _)
 obtain ⟨m1, hm1⟩ : ∃ m1, updN m 903 (w.heap.size + 1) = m1 := ⟨_, rfl⟩
 have hm903 : m1 903 = w.heap.size + 1 := by rw [← hm1]; exact updN_same _ _ _
 have hmo : ∀ r, r ≠ 903 → m1 r = m r := fun r hr => by rw [← hm1]; exact updN_other hr
 have hatlt : ∀ x, (L 0).at m tv x → x < w.heap.size := fun x hx => by
  rcases hx with ⟨r, b, hr, rfl⟩ | ⟨r, k, hr, hx⟩
  ·exact (hLok.at_ r b hr).lt
  ·exact hLok.tlt hr hx
 have hk0 : LentOk P F m1 tv W1 (L 0) := hLok.keep 903 (hn 0) hmo (hment 0) (fun x hx => hbel.block x (hatlt x hx)) (fun _ _ h => h) (fun _ _ h => .inl h) fun b o hf => hbel.block b (hF b o hf)
 have hk1 : LentOk P F m1 tv W1 (Lp (.loop r0) (L 0)) := by
  refine hk0.cons 903 rfl (hn 0) (by rw [hm903]; exact hL1) (by rw [hm903]; have := hG.low; omega) (fun h => ?_) (fun j hf => ?_)
  ·rw [hm903] at h
   have := hatlt _ ((Lent.at_congr (hn 0) hmo).1 h)
   omega
  ·rw [hm903] at hf
   have := hF _ _ hf; omega
 have hG1 : Glob P W1 := hG.keep (X := fun _ => False) (.of hbel) fun _ h => h.elim
 have outer : ∀ k F' W m' tv' o', LRel P F W1 m1 tv (Lp (.loop r0) (L 0)) F' W m' tv' (Lp o' (L k)) → LRel P F w m tv (L 0) F' W (updN m' 903 (m 903)) tv' (L k) ∧ (∀ r, r ≠ 903 → updN m' 903 (m 903) r = m' r) := fun k F' W m' tv' o' h => by
  have hmo2 : ∀ r, r ≠ 903 → updN m' 903 (m 903) r = m' r := fun r hr => updN_other hr
  obtain ⟨h1, h2, h3, h4, h5⟩ := h.ok.uncons (hn k)
  have hsz := h.below.size
  refine ⟨⟨⟨h.below.os.trans hbel.os, h.below.tape.trans hbel.tape, h.below.output.trans hbel.output, Nat.le_trans hbel.size h.below.size, fun q hq hx => (h.below.block q (by omega) fun hx' => ?_).trans (hbel.block q hq)⟩, h1.keep 903 (hn k) hmo2 (hment k) (fun _ _ => rfl) (fun _ _ h => h) (fun _ _ h => .inl h) (fun _ _ _ => rfl), fun r hr => ?_, h.ver, fun x hx => ?_, h.sub, fun b o hf => (h.new b o hf).imp id fun h => ⟨by omega, h.2⟩⟩, hmo2⟩
  ·rcases (Lq_at (hn 0)).1 hx' with e | e
   ·rw [hm903] at e; omega
   ·exact hx ((Lent.at_congr (hn 0) hmo).1 e)
  ·by_cases hr3 : r = 903
   ·subst hr3; exact updN_same _ _ _
   ·rw [hmo2 r hr3, h.fix r hr, hmo r hr3]
  ·rcases h.at_ x ((Lq_at (hn k)).2 (.inr ((Lent.at_congr (hn k) hmo2).1 hx))) with e | e
   ·rcases (Lq_at (hn 0)).1 e with e | e
    ·right; rw [hm903] at e; omega
    ·exact .inl ((Lent.at_congr (hn 0) hmo).1 e)
   ·right; omega
 refine ⟨w.heap.size + 1, [{ target := .collected w.heap.size, args := #[] }], W1, { target := .fn (.func gf) lb, args := #[.func (.yield (w.heap.size + 1)) #[] #[]] }, W1, gf,
  #[.func (.yield (w.heap.size + 1)) #[] #[]] ++ lb, W1, ?_, ?_, ?_, ?_, fun _ => by omega, ?_⟩
 ·rw [← hW1, ← hr0]; exact run_enterLoop_outer _ _ _ _ _
 ·simp only [resolve, hg]
  simp [go_sem]
 ·intro f' hf'; trivial
 ·simp [invoke, go_sem, eg]
 refine (hit (w.heap.size + 1) (fun k W => ∃ F' m' tv', LRel P F W1 m1 tv (Lp (.loop r0) (L 0)) F' W m' tv' (Lp (.loop r0) (L k))) W1 (fun k W ⟨F', m', tv', h⟩ => hpre W fun b o hf => ?_) ?_ ⟨F, m1, tv, .refl hk1⟩).mono ?_
 ·have h1 := hF b o hf
  refine (h.below.block b (by omega) fun hx => ?_).trans (hbel.block b h1)
  rcases (Lq_at (hn 0)).1 hx with e | e
  ·rw [hm903] at e; omega
  ·rcases (Lent.at_congr (hn 0) hmo).1 e with ⟨r, b', hr, rfl⟩ | ⟨r, k, hr, hx⟩
   ·exact hLok.nF r b' hr o hf
   ·exact hLok.tF r k b hr hx o hf
 ·rintro k W hkN ⟨F', m', tv', h⟩
  obtain ⟨hout, hmo2⟩ := outer k F' W m' tv' _ h
  obtain ⟨u1, u2, u3, u4, u5⟩ := h.ok.uncons (hn k)
  have hml : m' 903 = w.heap.size + 1 := (h.fix 903 rfl).trans hm903
  rw [hml] at u2
  have hFW : ∀ b o, F' b o → b < W.heap.size := fun b o hf => by
   have := h.below.size
   rcases h.new b o hf with e | e
   ·have := hF b o e; omega
   ·exact e.2
  have hGW : Glob P W := hG1.keep h.below fun x hx => lent_lo hk1 hx
  have hy := run_yield (P := P) (args := encs k) u2 (by rw [hrp]; exact hps k)
  rw [hrf, hrt, hrp, hra, hrb] at hy
  refine ⟨fn, _, assign, body, hy, roundIn_of_wpIn hfn ?_⟩
  have hsz : ((ps.zip (encs k)).foldl (fun t (p, v) => t.setIfInBounds p v) a.tmps).size = a.tmps.size := by
   have key : ∀ (l : List (Tmp × Value)) (ts : Array Value), (l.foldl (fun t (x : Tmp × Value) => t.setIfInBounds x.1 x.2) ts).size = ts.size := fun l => by
    induction l with
    | nil => intro ts; rfl
    | cons x l ih => intro ts; simp only [List.foldl_cons]; rw [ih]; simp
   have := key (ps.zip (encs k)).toList a.tmps
   rw [Array.foldl_toList] at this
   exact this
  have hstart := lent_start (N := a.tmps.size) (ro := some (w.heap.size + 1)) (env := envs k) (ts := (ps.zip (encs k)).foldl (fun t (p, v) => t.setIfInBounds p v) a.tmps) hFW hGW h.ok hsz fun t => by
   have hh := henv k F' W _ tv' hkN hout t
   have ex : Ext (fun r => r = 903) ⟨updN m' 903 (m 903), tv', F'⟩ (L k).tk W ⟨m', tv', F'⟩ (L k).tk W := ⟨fun _ _ h => h, fun _ _ _ _ h => h, fun r hr => (hmo2 r hr).symm, fun r _ n' hn' => ⟨n', hn', Nat.le_refl _, fun _ => rfl⟩, fun _ _ _ _ h => h⟩
   exact hh.mono ex fun q hq e => by subst e; rw [hen3] at hq; cases hq
  have hS := hround k hkN (lentBase P F' W m' tv' (Lp (.loop r0) (L k)) a.tmps.size (some (w.heap.size + 1)) hGW h.ok) (.loop r0) (.loop { r0 with state := .busy }) rfl _ _ _ hstart
  refine wpIn_mono hS fun e a1 W2 hq => ?_
  obtain ⟨σ1, g1, ⟨rfl, hb1, hbody⟩, ok1⟩ := hq
  have hg1 : g1.m 903 = w.heap.size + 1 := (ok1.fix 903 rfl).trans hml
  obtain ⟨hx1, hx2⟩ := ok1.blk 903 _ hb1
  have hx3 : W2.heap[w.heap.size + 1]? = some (.loop r0) := by rw [← hg1]; exact hx2
  have hlt2 : w.heap.size + 1 < W2.heap.size := (Array.getElem?_eq_some_iff.1 hx3).1
  have hbeg := run_beginRound (P := P) hx3 hst
  refine ⟨_, hbeg, ?_⟩
  have ok2 := (ok1.write (k' := .obj (.loop { r0 with state := .busy })) (w' := W2.putObj (w.heap.size + 1) (.loop { r0 with state := .busy })) hb1 (fun b hb => World.putObj_heap_other (by rw [← hg1]; exact hb)) (size_putObj _ _ _)
   (.one (m := w.heap.size + 1) (by rw [← hg1]; exact hx1.imp id And.left) rfl rfl rfl (by rw [size_putObj]; exact Nat.le_refl _) fun b hb => World.putObj_heap_other hb) (by show (W2.putObj _ _).heap[g1.m 903]? = _; rw [hg1]; exact World.putObj_heap_same hlt2) rfl).1
  refine wpIn_mono (hbody _ _ _ ok2) fun e a3 W3 hq => ?_
  obtain ⟨σ2, g2, ⟨rfl, hb2, hch, hl2⟩, ok3⟩ := hq
  have hg2 : g2.m 903 = w.heap.size + 1 := (ok3.fix 903 rfl).trans hml
  have hx4 : W3.heap[w.heap.size + 1]? = some (.loop { r0 with state := .busy }) := by rw [← hg2]; exact (ok3.blk 903 _ hb2).2
  have hend := run_endRound (P := P) none hx4
  simp only [Option.isNone_none, if_true] at hend
  rw [hback] at hend
  refine ⟨_, _, hend, rfl, ?_⟩
  have hchk : lentChk σ2 (903 :: bs) ks = true := by
   unfold lentChk at hch ⊢
   rw [Bool.and_eq_true] at hch ⊢
   refine ⟨?_, hch.2⟩
   rw [List.all_cons, hch.1, hb2]; rfl
  have hrel := lent_end (903 :: bs) ks ok3 hchk (hks k)
  have hlr : σ2.lends (903 :: bs) ks = Lp (.loop { r0 with state := .busy }) (L (k + 1)) := by
   rw [← hl2]
   unfold St.lends
   rw [keepL, hb2]
  rw [hlr] at hrel
  have h9 := (h.trans hrel).putRec (o' := .loop r0) (hn 0) (hn (k + 1)) (hment (k + 1))
  rw [hg2] at h9
  exact ⟨_, _, _, h9⟩
 ·rintro e W2 ⟨⟨v, rfl⟩, F', m', tv', h⟩
  obtain ⟨u1, u2, u3, u4, u5⟩ := h.ok.uncons (hn N)
  have hml : m' 903 = w.heap.size + 1 := (h.fix 903 rfl).trans hm903
  rw [hml] at u2
  have h9 := h.putRec (o' := .loop { r0 with state := .exhausted }) (hn 0) (hn N) (hment N)
  obtain ⟨hout, _⟩ := outer N F' _ m' tv' _ h9
  rw [hml] at hout
  refine ⟨none, W2.putObj (w.heap.size + 1) (.loop { r0 with state := .exhausted }), by have := run_endLoop (P := P) u2 (by rw [hst]; simp); exact this.trans (by rw [hpe]), ?_⟩
  refine hdone w.heap.size F' _ _ tv' (Nat.le_refl _) hout ?_ (fun o hf => ?_) fun hx => ?_
  rotate_left
  ·rcases h.new _ o hf with e | e
   ·have := hF _ _ e; omega
   ·omega
  ·rcases h.at_ _ ((Lq_at (hn N)).2 (.inr ((Lent.at_congr (q := 903) (hn N) fun r hr => updN_other hr).1 hx))) with e | e
   ·rcases (Lq_at (hn 0)).1 e with e | e
    ·rw [hm903] at e; omega
    ·have := hatlt _ ((Lent.at_congr (hn 0) hmo).1 e)
     omega
   ·omega
  rw [World.putObj_heap_other (by omega)]
  refine (h.below.block _ (by omega) fun hx => ?_).trans hK1
  rcases (Lq_at (hn 0)).1 hx with e | e
  ·rw [hm903] at e; omega
  ·have := hatlt _ ((Lent.at_congr (hn 0) hmo).1 e)
   omega
theorem goC0 {A : Base P} (n : Nat) {c : Code} {σ : St} {Q : Exit → St → Prop} (h : go P A n (.code c) [] σ Q) : SatC P A c σ Q := goC (s := []) n h
end
section
open Go Go.RowKit
abbrev pvF (n : Int) : Value := .iface 102 (.agg #[.int .i64 n])
theorem assert_fail (n : Int) (w : World) : (Instr.typeAssert (.iface 102 (.agg #[.int .i64 n])) 20 102 true).run Tryz.prog w = .ok (.tuple #[.agg #[.int .i64 n], .bool true]) w := by
 simp [Instr.typeAssert, go_sem]
set_option maxRecDepth 100000 in
set_option maxHeartbeats 400000 in
theorem catch_panic (pe pa : Addr) (x y n : Int) (older : List PanicEntry) (w : World) (hne : pe ≠ pa) (hc : w.cell? pe = some (.int .i64 x)) (hz : w.frozen? pe = false) (hc2 : w.cell? pa = some (.int .i64 y)) (hz2 : w.frozen? pa = false) :
  CallsD Tryz.prog 59 #[.pointer (some pe), .pointer (some pa)] (.panicking ({ v := pvF n, recovered := false } :: older)) w fun e u' w' =>
   e = .returned (.tuple #[]) ∧ u' = .panicking ({ v := pvF n, recovered := true } :: older) ∧ w' = ((w.setCell pe (.int .i64 3)).alloc (.cells #[.int .i64 n] 102)).setCell pa (.int .i64 n) := by
 have hlt : pa.block < w.heap.size := by
  unfold World.cell? at hc2
  by_cases h : pa.block < w.heap.size
  ·exact h
  ·rw [Array.getElem?_eq_none (by omega)] at hc2; cases hc2
 have hcp : ((w.setCell pe (.int .i64 3)).alloc (.cells #[.int .i64 n] 102)).cell? pa = some (.int .i64 y) := by
  rw [World.cell?_alloc_lt _ _ _ (by simpa using hlt), World.cell?_setCell_other (h := hne)]; exact hc2
 have hzp : ((w.setCell pe (.int .i64 3)).alloc (.cells #[.int .i64 n] 102)).frozen? pa = false := by
  rw [World.frozen?_alloc_old _ _ _ (by simp; omega), World.frozen?_setCell]; exact hz2
 refine callsD_of_wpS Tryz.func59 rfl fun c₀ cs hu => ?_
 apply wpS_seq
 apply wpS_region
 simp [wpOpsS, go_sem, recoverD, hu, Tryz.ntmps59, Exit.thenS]
 apply wpS_seq
 apply wpS_region
 simp [wpOpsS, go_sem, recoverD, Exit.thenS, pvF]
 refine wpS_cond (t := true) (by simp [Act.eval, Array.replicate]) ?_
 simp only [if_true]
 apply wpS_seq
 apply wpS_region
 simp [wpOpsS, go_sem, hc, hz, Exit.thenS]
 apply wpS_seq
 apply wpS_region
 simp [wpOpsS, go_sem, assert_fail, Exit.thenS]
 apply wpS_seq
 apply wpS_region
 simp [wpOpsS, go_sem, Exit.thenS]
 refine wpS_cond (t := true) (by simp [Act.eval, Array.replicate]) ?_
 simp only [if_true]
 apply wpS_region
 simp [wpOpsS, go_sem, bodyPostS, results, Tryz.results59, hcp, hzp]
theorem catch_idle (pe pa : Addr) (w : World) :
  CallsD Tryz.prog 59 #[.pointer (some pe), .pointer (some pa)] .returning w fun e u' w' => e = .returned (.tuple #[]) ∧ u' = .returning ∧ w' = w := by
 refine callsD_of_wpS Tryz.func59 rfl fun c₀ cs hu => ?_
 apply wpS_seq
 apply wpS_region
 simp [wpOpsS, go_sem, recoverD, hu, Tryz.ntmps59, Exit.thenS]
 apply wpS_seq
 apply wpS_region
 simp [wpOpsS, go_sem, recoverD, hu, Exit.thenS]
 refine wpS_cond (t := false) (by simp [Act.eval, Array.replicate]) ?_
 simp only [Bool.false_eq_true, if_false]
 refine wpS_of_wp (wp_skip ?_)
 cases c₀
 simp_all [bodyPostS, results, Tryz.results59]
end
section
open Go Go.RowKit
section
variable {P : Program} {F F' : Nat → Nat → Prop} {m : Nat → Nat} {tv : Nat → Value} {w w' : World} {L : Lent}
theorem LentOk.keep0 (h : LentOk P F m tv w L) (hb : ∀ x, L.at m tv x → w'.heap[x]? = w.heap[x]?) (hFF : ∀ b o, F b o → F' b o) (hFn : ∀ b o, F' b o → F b o ∨ ¬ L.at m tv b) (hF : ∀ b o, F b o → w'.heap[b]? = w.heap[b]?) : LentOk P F' m tv w' L := by
 have e : Ext (fun _ => False) ⟨m, tv, F⟩ L.tk w ⟨m, tv, F'⟩ L.tk w' := ⟨hFF, fun b o u hf hu => (cell_block (hF b o hf)).trans hu, fun _ _ => rfl, fun r _ n' hn' => ⟨n', hn', Nat.le_refl _, fun _ => rfl⟩, fun b es c hf hu => (hF b 0 hf).trans hu⟩
 refine ⟨h.nm, h.tnm, h.lo, h.tlo, fun r b hr => (h.at_ r b hr).mono e (fun _ _ => id) (hb _ (.inl ⟨r, b, hr, rfl⟩)), fun r k hr => ?_, fun r b hr o hf => ?_, fun r k x hr hx o hf => ?_, h.inj, h.tokblk, h.toktok⟩
 ·obtain ⟨xs, h1, h2⟩ := h.tat r k hr
  exact ⟨xs, ownsRow_same h1 fun x hx => hb x (.inr ⟨r, k, hr, hx⟩), fun rows hr' => ⟨(h2 rows hr').1, fun i hi j hj => by
   obtain ⟨u, h3, h4⟩ := (h2 rows hr').2 i hi j hj
   exact ⟨u, h3, h4.mono hFF fun b o u hf hu => (cell_block (hF b o hf)).trans hu⟩⟩⟩
 ·rcases hFn _ _ hf with h1 | h1
  ·exact h.nF r b hr o h1
  ·exact h1 (.inl ⟨r, b, hr, rfl⟩)
 ·rcases hFn _ _ hf with h1 | h1
  ·exact h.tF r k x hr hx o h1
  ·exact h1 (.inr ⟨r, k, hr, hx⟩)
theorem LentOk.lt_at (h : LentOk P F m tv w L) {x : Nat} (hx : L.at m tv x) : x < w.heap.size := by
 rcases hx with ⟨r, b, hr, rfl⟩ | ⟨r, k, hr, hx⟩
 ·exact (h.at_ r b hr).lt
 ·exact h.tlt hr hx
end
def postTry (postg : Out → Prop) (o : Out) : Prop := (∃ res L', o = .ret (.tup [.d (.raw (.int .i64 0)), .d (.raw (.int .i64 0))]) L' ∧ postg (.ret res L')) ∨ ∃ n, o = .ret (.tup [.d (.raw (.int .i64 n)), .d (.raw (.int .i64 3))]) ⟨[], []⟩ ∧ postg (.pan (pvF n))
theorem setCell_heap (w : World) (a : Addr) (v : Value) (k : Nat) (h : k ≠ a.block) : (w.setCell a v).heap[k]? = w.heap[k]? := by
 simp only [World.setCell, Array.getElem?_modify]
 rw [if_neg (Ne.symm h)]
theorem setCell_size (w : World) (a : Addr) (v : Value) : (w.setCell a v).heap.size = w.heap.size := by simp [World.setCell]
set_option maxRecDepth 100000 in
set_option maxHeartbeats 2000000 in
theorem try_con {g : FuncId} {cs : List AV} {L : Lent} {postg : Out → Prop} (hc : ConL Tryz.prog g cs L postg) (hpan : ∀ v, postg (.pan v) → ∃ n, v = pvF n) : ConL Tryz.prog 27 [.fn g cs] L (postTry postg) := by
 refine ⟨⟨_, Tryz.func27, by decide +kernel, rfl⟩, fun F w vs m tv hF hG hLok hl hv => ?_⟩
 obtain ⟨v, rfl⟩ : ∃ v, vs = [v] := by
  match vs, hl with
  | [v], _ => exact ⟨v, rfl⟩
 have h0 := hv 0 (by simp) (by simp)
 simp only [List.getElem_cons_zero] at h0
 obtain ⟨us, rfl, hul, hus⟩ := h0.fn_eq
 obtain ⟨hen, hcon⟩ := hc
 generalize hR : (fun (e : Ending) (w' : World) => BelowX w.heap.size (L.at m tv) w w' ∧ _) = R
 refine calls_of_wp_defers Tryz.func27 rfl ?_
 apply wp_seq
 apply wp_region
 simp [wpOps, go_sem, Tryz.ntmps27, Exit.then]
 refine .inl ?_
 refine .inl ?_
 apply wp_seq
 apply wp_region
 have hmf : ∀ (fn : Fn) (first cap : Array Value) (w : World), (Instr.makeFunc fn first cap).run Tryz.prog w = .ok (.func fn first cap) w := fun _ _ _ _ => rfl
 simp [wpOps, go_sem, Exit.then]
 refine .inl ?_
 refine .inl ?_
 apply wp_seq
 apply wp_region
 simp [wpOps, go_sem, Exit.then, run_callFunc hen]
 refine .inl ?_
 refine .inl ?_
 obtain ⟨w2, hw2⟩ : ∃ w2, (w.alloc (.cells #[.int .i64 0] 3)).alloc (.cells #[.int .i64 0] 27) = w2 := ⟨_, rfl⟩
 have hs2 : w2.heap.size = w.heap.size + 2 := by rw [← hw2]; simp
 have hh2 : ∀ k, k < w.heap.size → w2.heap[k]? = w.heap[k]? := fun k hk => by
  rw [← hw2, Below.heap_alloc _ _ k (by simp; omega), Below.heap_alloc _ _ k hk]
 have hbx2 : BelowX w.heap.size (L.at m tv) w w2 := ⟨by rw [← hw2]; rfl, by rw [← hw2]; rfl, by rw [← hw2]; rfl, by omega, fun k hk _ => hh2 k hk⟩
 have e2 : Ext (fun _ => False) ⟨m, tv, F⟩ L.tk w ⟨m, tv, F⟩ L.tk w2 := ⟨fun _ _ h => h, fun b o u hf hu => (cell_block (hh2 b (hF b o hf))).trans hu, fun _ _ => rfl, fun r _ n' hn' => ⟨n', hn', Nat.le_refl _, fun _ => rfl⟩, fun b es c hf hu => (hh2 b (hF b 0 hf)).trans hu⟩
 rw [hw2]
 have hcall := hcon F w2 us m tv (fun b o hf => by have := hF b o hf; omega) (hG.keep hbx2 fun _ hx => lent_lo hLok hx) (hLok.keep0 (fun x hx => hh2 x (hLok.lt_at hx)) (fun _ _ h => h) (fun _ _ h => .inl h) fun b o hf => hh2 b (hF b o hf)) hul (fun i hi hv => (hus i hi hv).mono e2 fun _ _ => id)
 refine hcall.mono ?_
 rintro e w3 ⟨hbx3, h⟩
 have hs3 := hbx3.size
 have hnat : ∀ k, w.heap.size ≤ k → ¬ L.at m tv k := fun k hk hx => by have := hLok.lt_at hx; omega
 have hb0 : w3.heap[w.heap.size]? = some (.cells #[.int .i64 0] 3) := by
  rw [hbx3.block _ (by omega) (hnat _ (Nat.le_refl _)), ← hw2, Below.heap_alloc _ _ _ (by simp)]; exact heap_alloc_new _ _
 have hb1 : w3.heap[w.heap.size + 1]? = some (.cells #[.int .i64 0] 27) := by
  rw [hbx3.block _ (by omega) (hnat _ (by omega)), ← hw2]; have := heap_alloc_new (w.alloc (.cells #[.int .i64 0] 3)) (.cells #[.int .i64 0] 27); rwa [World.size_alloc] at this
 have c0 : w3.cell? ⟨w.heap.size, 0, none⟩ = some (.int .i64 0) := by unfold World.cell?; simp [hb0]
 have z0 : w3.frozen? ⟨w.heap.size, 0, none⟩ = false := by unfold World.frozen?; simp [hb0]
 have c1 : w3.cell? ⟨w.heap.size + 1, 0, none⟩ = some (.int .i64 0) := by unfold World.cell?; simp [hb1]
 have z1 : w3.frozen? ⟨w.heap.size + 1, 0, none⟩ = false := by unfold World.frozen?; simp [hb1]
 have hne : (⟨w.heap.size + 1, 0, none⟩ : Addr) ≠ ⟨w.heap.size, 0, none⟩ := fun e => by have := congrArg Addr.block e; simp at this
 have hbel : ∀ w4 : World, w4.os = w3.os → w4.tape = w3.tape → w4.output = w3.output → w3.heap.size ≤ w4.heap.size → (∀ k, k < w.heap.size → w4.heap[k]? = w3.heap[k]?) → BelowX w.heap.size (L.at m tv) w w4 := fun w4 h1 h2 h3 h4 h5 =>
  ⟨h1.trans (hbx3.os.trans hbx2.os), h2.trans (hbx3.tape.trans hbx2.tape), h3.trans (hbx3.output.trans hbx2.output), by omega, fun k hk hx => (h5 k hk).trans ((hbx3.block k (by omega) hx).trans (hh2 k hk))⟩
 have hpair : ∀ (w4 : World) (G : Nat → Nat → Prop) (x y : Int), HasC w4 G (.tup [.d (.raw (.int .i64 x)), .d (.raw (.int .i64 y))]) (.tuple #[.int .i64 x, .int .i64 y]) := fun w4 G x y => by
  refine .tup _ [.int .i64 x, .int .i64 y] rfl fun i hi hv => ?_
  match i, hi with
  | 0, _ => exact .d (.raw _)
  | 1, _ => exact .d (.raw _)
 rcases h with ⟨v, res, L', m', tv', rfl, hpost, hres, hok, hfn, hsn, hv3, hl3, hfix, hver, hat⟩ | ⟨pv, rfl, hpost⟩
 ·have c1' : (w3.setCell ⟨w.heap.size, 0, none⟩ (.int .i64 0)).cell? ⟨w.heap.size + 1, 0, none⟩ = some (.int .i64 0) := by rw [World.cell?_setCell_other (h := hne.symm)]; exact c1
  have z1' : (w3.setCell ⟨w.heap.size, 0, none⟩ (.int .i64 0)).frozen? ⟨w.heap.size + 1, 0, none⟩ = false := by rw [World.frozen?_setCell]; exact z1
  show Code.wp _ _ _ _ _
  apply wp_seq
  apply wp_region
  simp [wpOps, go_sem, Exit.then, c0, z0, c1', z1']
  refine .inl ?_
  refine .inl ?_
  refine wp_ret ?_
  refine leaves_cons (f := 59) (args := #[.pointer (some ⟨w.heap.size + 1, 0, none⟩), .pointer (some ⟨w.heap.size, 0, none⟩)]) (by simp) (by simp [go_sem]) ?_
  refine (catch_idle ⟨w.heap.size + 1, 0, none⟩ ⟨w.heap.size, 0, none⟩ _).mono ?_
  rintro e u' w'' ⟨rfl, rfl, rfl⟩
  obtain ⟨w4, hw4⟩ : ∃ w4, (w3.setCell ⟨w.heap.size, 0, none⟩ (.int .i64 0)).setCell ⟨w.heap.size + 1, 0, none⟩ (.int .i64 0) = w4 := ⟨_, rfl⟩
  have d0 : w4.cell? ⟨w.heap.size, 0, none⟩ = some (.int .i64 0) := by
   rw [← hw4, World.cell?_setCell_other (h := hne)]
   exact World.cell?_setCell_same _ _ _ c0
  have d1 : w4.cell? ⟨w.heap.size + 1, 0, none⟩ = some (.int .i64 0) := by
   rw [← hw4]
   exact World.cell?_setCell_same _ _ _ c1'
  have hh4 : ∀ k, k ≠ w.heap.size → k ≠ w.heap.size + 1 → w4.heap[k]? = w3.heap[k]? := fun k h1 h2 => by
   rw [← hw4, setCell_heap _ _ _ _ h2, setCell_heap _ _ _ _ h1]
  have hs4 : w4.heap.size = w3.heap.size := by rw [← hw4, setCell_size, setCell_size]
  rw [hw4]
  simp [Leaves, settle, results, Tryz.results27, go_sem, d0, d1]
  rw [← hR]
  have hatk : ∀ x, L'.at m' tv' x → x ≠ w.heap.size ∧ x ≠ w.heap.size + 1 := fun x hx => by
   rcases hat x hx with h | h
   ·have := hLok.lt_at h; omega
   ·omega
  refine ⟨hbel w4 (by rw [← hw4]; rfl) (by rw [← hw4]; rfl) (by rw [← hw4]; rfl) (by omega) (fun k hk => hh4 k (by omega) (by omega)), .inl ⟨_, _, L', m', tv', rfl, .inl ⟨res, L', rfl, hpost⟩, rfl, hok, hfn, hsn, hpair _ _ 0 0, hl3.keep0 (fun x hx => hh4 x (hatk x hx).1 (hatk x hx).2) (fun b o hf => ?_) (fun b o hf => ?_) (fun b o hf => ?_), hfix, hver, fun x hx => (hat x hx).imp (fun h => h) fun h => by omega⟩⟩
  ·exact hf.imp id fun ⟨h1, h2, h3⟩ => ⟨by omega, by omega, h3⟩
  ·rcases hf with h | ⟨h1, h2, h3⟩
   ·exact .inl (.inl h)
   ·exact .inr h3
  ·rcases hf with h | ⟨h1, h2, h3⟩
   ·have := hF b o h; exact hh4 b (by omega) (by omega)
   ·exact hh4 b (by omega) (by omega)
 ·obtain ⟨n, rfl⟩ := hpan pv hpost
  refine leaves_cons (f := 59) (args := #[.pointer (some ⟨w.heap.size + 1, 0, none⟩), .pointer (some ⟨w.heap.size, 0, none⟩)]) (by simp) (by simp [go_sem]) ?_
  refine (catch_panic ⟨w.heap.size + 1, 0, none⟩ ⟨w.heap.size, 0, none⟩ 0 0 n [] w3 hne c1 z1 c0 z0).mono ?_
  rintro e u' w'' ⟨rfl, rfl, rfl⟩
  obtain ⟨w4, hw4⟩ : ∃ w4, ((w3.setCell ⟨w.heap.size + 1, 0, none⟩ (.int .i64 3)).alloc (.cells #[.int .i64 n] 102)).setCell ⟨w.heap.size, 0, none⟩ (.int .i64 n) = w4 := ⟨_, rfl⟩
  have d0 : w4.cell? ⟨w.heap.size, 0, none⟩ = some (.int .i64 n) := by
   rw [← hw4]
   refine World.cell?_setCell_same _ _ _ (u := .int .i64 0) ?_
   rw [World.cell?_alloc_lt _ _ _ (by rw [setCell_size]; show w.heap.size < _; omega), World.cell?_setCell_other (h := hne)]
   exact c0
  have d1 : w4.cell? ⟨w.heap.size + 1, 0, none⟩ = some (.int .i64 3) := by
   rw [← hw4, World.cell?_setCell_other (h := hne.symm), World.cell?_alloc_lt _ _ _ (by rw [setCell_size]; show w.heap.size + 1 < _; omega)]
   exact World.cell?_setCell_same _ _ _ c1
  have hh4 : ∀ k, k < w.heap.size → w4.heap[k]? = w3.heap[k]? := fun k h1 => by
   rw [← hw4, setCell_heap _ _ _ _ (by show k ≠ w.heap.size; omega), Below.heap_alloc _ _ k (by rw [setCell_size]; omega), setCell_heap _ _ _ _ (by show k ≠ w.heap.size + 1; omega)]
  have hs4 : w4.heap.size = w3.heap.size + 1 := by rw [← hw4, setCell_size, World.size_alloc, setCell_size]
  rw [hw4]
  simp [Leaves, settle, results, Tryz.results27, go_sem, d0, d1]
  rw [← hR]
  refine ⟨hbel w4 (by rw [← hw4]; rfl) (by rw [← hw4]; rfl) (by rw [← hw4]; rfl) (by omega) hh4, .inl ⟨_, _, ⟨[], []⟩, m, tv, rfl, .inr ⟨n, rfl, hpost⟩, rfl, fun r b h => by simp [Lent.blk, look] at h, fun r v h => by simp [look] at h, fun r v h => by simp [look] at h, hpair _ _ n 3, ?_, fun _ _ => rfl, fun r k h => by simp [Lent.tok, look] at h, fun x hx => ?_⟩⟩
  ·exact ⟨fun r b h => by simp [Lent.blk, look] at h, fun r b h => by simp [Lent.tok, look] at h, fun r b h => by simp [Lent.blk, look] at h, fun r b x h => by simp [Lent.tok, look] at h, fun r b h => by simp [Lent.blk, look] at h, fun r b h => by simp [Lent.tok, look] at h, fun r b h => by simp [Lent.blk, look] at h, fun r b x h => by simp [Lent.tok, look] at h, fun r b r' b' h => by simp [Lent.blk, look] at h, fun r k r' b x h => by simp [Lent.tok, look] at h, fun r k r' k' x h => by simp [Lent.tok, look] at h⟩
  ·rcases hx with ⟨r, b, h, _⟩ | ⟨r, k, h, _⟩
   ·simp [Lent.blk, look] at h
   ·simp [Lent.tok, look] at h
end
section
open Go Go.RowKit
structure Sk where
 ver : Nat
 len : Nat
 rows : List (List D)
structure RS where
 toks : List LTok
 at_ : Nat
 td : Sk
 nm : Sk
 ni : Sk
 pt : Sk
abbrev rdBlk (s : RS) : Blk := .cell 62 [.d (.sl (encTs s.toks)), .d (.raw (.int .i64 s.at_)), .stk 910 11 s.td.ver 0 s.td.len, .stk 911 1 s.nm.ver 0 s.nm.len, .stk 912 1 s.ni.ver 0 s.ni.len, .stk 913 6 s.pt.ver 0 s.pt.len]
abbrev rdL (s : RS) : Lent := ⟨[(901, some (rdBlk s))], [(910, some ⟨11, 120, s.td.ver, some s.td.rows⟩), (911, some ⟨1, 9, s.nm.ver, some s.nm.rows⟩), (912, some ⟨1, 3, s.ni.ver, some s.ni.rows⟩), (913, some ⟨6, 36, s.pt.ver, some s.pt.rows⟩)]⟩
abbrev pvR (s : RS) : Value := .iface 102 (.agg #[.int .i64 s.at_])
theorem fail_c (s : RS) : ConL Tryz.prog 116 [.box 901 0] (rdL s) (fun o => o = .pan (pvR s)) := by
 refine conL_of [901] [910, 911, 912, 913] Tryz.func116 rfl (by decide +kernel) (by simp [Tryz.ntmps116]) fun A hA => ?_
 rw [Tryz.ntmps116] at hA
 refine goC 300 ?_
 simp only [go_sem, hA]
 refine goPanic rfl (by simp only [go_sem]; rfl) rfl ?_
 simp only [go_sem]
 exact ⟨_, rfl, rfl⟩
def postNext (s : RS) (o : Out) : Prop := match s.toks[s.at_]? with
 | some t => o = .ret (.agg ((encT t).map .d)) (rdL s)
 | none => o = .pan (pvR s)
set_option maxRecDepth 100000 in
set_option maxHeartbeats 4000000 in
theorem next_r (s : RS) : ConL Tryz.prog 115 [.box 901 0] (rdL s) (postNext s) := by
 refine conL_of [901] [910, 911, 912, 913] Tryz.func115 rfl (by decide +kernel) (by simp [Tryz.ntmps115]) fun A hA => ?_
 rw [Tryz.ntmps115] at hA
 refine goC 300 ?_
 by_cases h : s.at_ < s.toks.length
 ·have g0 : decide ((s.toks.length : Int) ≤ (s.at_ : Int)) = false := decide_eq_false (by omega)
  have ht : (encTs s.toks).getD (s.at_ : Int).toNat [] = encT s.toks[s.at_] := by rw [Int.toNat_natCast, encTs_at _ _ h]
  have hp : s.toks[s.at_]? = some s.toks[s.at_] := List.getElem?_eq_getElem h
  simp only [go_sem, hA, encTs_length, g0, Tryz.results115]
  refine ⟨by rfl, ⟨by omega, by omega, by rw [ht]; rfl⟩, ?_⟩
  simp only [go_sem, hA, ht, encT]
  refine ⟨by rfl, ?_⟩
  exact ⟨_, rfl, rfl, by unfold postNext; rw [hp]; rfl⟩
 ·have g0 : decide ((s.toks.length : Int) ≤ (s.at_ : Int)) = true := decide_eq_true (by omega)
  have hp : s.toks[s.at_]? = none := List.getElem?_eq_none (by omega)
  simp only [go_sem, hA, encTs_length, g0]
  refine ⟨by rfl, ?_⟩
  refine goCallL [901] [910, 911, 912, 913] 300 (fail_c s) rfl rfl rfl rfl rfl (by simp only [go_sem, hA]) (fun _ _ h => by cases h) (fun pv h => ?_)
  cases h
  exact ⟨_, rfl, by unfold postNext; rw [hp]⟩
def isR (s : RS) (k : Int) (t : ByteArray) : Bool := match s.toks[s.at_]? with
 | some x => decide (x.kind = k) && decide ((⟨x.text.toArray⟩ : ByteArray) = t)
 | none => false
set_option maxRecDepth 100000 in
set_option maxHeartbeats 8000000 in
theorem is_r (s : RS) (k : Int) (t : ByteArray) : ConL Tryz.prog 60 [.box 901 0, .d (.raw (.int .i64 k)), .d (.raw (.string t))] (rdL s) (fun o => o = .ret (.d (.raw (.bool (isR s k t)))) (rdL s)) := by
 refine conL_of [901] [910, 911, 912, 913] Tryz.func60 rfl (by decide +kernel) (by simp [Tryz.ntmps60]) fun A hA => ?_
 rw [Tryz.ntmps60] at hA
 refine goC 400 ?_
 by_cases h : s.at_ < s.toks.length
 ·have g0 : decide ((s.at_ : Int) < (s.toks.length : Int)) = true := decide_eq_true (by omega)
  have ht : (encTs s.toks).getD (s.at_ : Int).toNat [] = encT s.toks[s.at_] := by rw [Int.toNat_natCast, encTs_at _ _ h]
  have hp : s.toks[s.at_]? = some s.toks[s.at_] := List.getElem?_eq_getElem h
  generalize hx : s.toks[s.at_] = x at ht hp
  by_cases hk : x.kind = k
  ·have g1 : decide (x.kind = k) = true := decide_eq_true hk
   simp only [go_sem, hA, encTs_length, g0, g1, ht, encT, Tryz.results60]
   refine ⟨⟨by omega, by omega⟩, ⟨by omega, by omega⟩, by rfl, _, rfl, rfl, ?_⟩
   unfold isR; rw [hp]; simp only [g1, Bool.true_and]
  ·have g1 : decide (x.kind = k) = false := decide_eq_false hk
   simp only [go_sem, hA, encTs_length, g0, g1, ht, encT, Tryz.results60]
   refine ⟨⟨by omega, by omega⟩, by rfl, _, rfl, rfl, ?_⟩
   unfold isR; rw [hp]; simp only [g1, Bool.false_and]
 ·have g0 : decide ((s.at_ : Int) < (s.toks.length : Int)) = false := decide_eq_false (by omega)
  have hp : s.toks[s.at_]? = none := List.getElem?_eq_none (by omega)
  simp only [go_sem, hA, encTs_length, g0, Tryz.results60]
  refine ⟨by rfl, _, rfl, rfl, ?_⟩
  unfold isR; rw [hp]
theorem isR_lt {s : RS} {k : Int} {t : ByteArray} (h : isR s k t = true) : s.at_ < s.toks.length := by
 unfold isR at h
 split at h
 ·rename_i hx; exact (List.getElem?_eq_some_iff.1 hx).1
 ·cases h
def postExpect (s : RS) (k : Int) (t : ByteArray) (o : Out) : Prop := if isR s k t = true then o = .ret (.tup []) (rdL { s with at_ := s.at_ + 1 }) else o = .pan (pvR s)
set_option maxRecDepth 100000 in
set_option maxHeartbeats 4000000 in
theorem expect_r (s : RS) (k : Int) (t : ByteArray) (hs : s.toks.length ≤ 1048576) : ConL Tryz.prog 77 [.box 901 0, .d (.raw (.int .i64 k)), .d (.raw (.string t))] (rdL s) (postExpect s k t) := by
 refine conL_of [901] [910, 911, 912, 913] Tryz.func77 rfl (by decide +kernel) (by simp [Tryz.ntmps77]) fun A hA => ?_
 rw [Tryz.ntmps77] at hA
 refine goC 300 ?_
 simp only [go_sem, hA]
 refine goCallL [901] [910, 911, 912, 913] 300 (is_r s k t) rfl rfl rfl rfl rfl (by simp only [go_sem, hA]) (fun res L' h => ?_) (fun pv h => by cases h)
 cases h
 cases hi : isR s k t with
 | true =>
  have hl := isR_lt hi
  simp only [go_sem, hA]
  exact ⟨by unfold inI64; omega, .tup [], rfl, rfl, by unfold postExpect; rw [if_pos hi]; rfl⟩
 | false =>
  simp only [go_sem, hA]
  refine goCallL [901] [910, 911, 912, 913] 300 (fail_c s) rfl rfl rfl rfl rfl (by simp only [go_sem, hA]) (fun _ _ h => by cases h) (fun pv h => ?_)
  cases h
  exact ⟨_, rfl, by unfold postExpect; rw [hi]; rfl⟩
end
section
open Go Go.RowKit
abbrev avT (x : LTok) : AV := .agg [.d (.raw (.int .i64 x.kind)), .d (.raw (.string ⟨x.text.toArray⟩)), .d (.raw (.int .i64 x.pos))]
def postName (nf : LTok → Bool) (s : RS) (o : Out) : Prop := match s.toks[s.at_]? with
 | some x => if nf x = true then o = .ret (.d (.raw (.string ⟨x.text.toArray⟩))) (rdL { s with at_ := s.at_ + 1 }) else o = .pan (pvR s)
 | none => o = .pan (pvR s)
set_option maxRecDepth 100000 in
set_option maxHeartbeats 4000000 in
theorem name_r (nf : LTok → Bool) (hN : ∀ x : LTok, Con Tryz.prog 135 [avT x] (.d (.raw (.bool (nf x))))) (s : RS) (hs : s.toks.length ≤ 1048576) : ConL Tryz.prog 78 [.box 901 0] (rdL s) (postName nf s) := by
 refine conL_of [901] [910, 911, 912, 913] Tryz.func78 rfl (by decide +kernel) (by simp [Tryz.ntmps78]) fun A hA => ?_
 rw [Tryz.ntmps78] at hA
 refine goC 300 ?_
 simp only [go_sem, hA]
 refine goCallL [901] [910, 911, 912, 913] 300 (next_r s) rfl rfl rfl rfl rfl (by simp only [go_sem, hA]) (fun res L' h => ?_) (fun pv h => ?_)
 ·cases hp : s.toks[s.at_]? with
  | none => unfold postNext at h; rw [hp] at h; cases h
  | some x =>
   have hl := (List.getElem?_eq_some_iff.1 hp).1
   unfold postNext at h
   rw [hp] at h
   cases h
   simp only [go_sem, hA, encT]
   refine goCall 300 (hN x) rfl (by simp only [go_sem]) (by simp only [go_sem, hA]) ?_
   cases hi : nf x with
   | true =>
    simp only [go_sem, hA, Tryz.results78]
    exact ⟨by unfold inI64; omega, _, rfl, rfl, by unfold postName; rw [hp]; simp only [hi, if_true]; rfl⟩
   | false =>
    simp only [go_sem, hA]
    refine goCallL [901] [910, 911, 912, 913] 300 (fail_c s) rfl rfl rfl rfl rfl (by simp only [go_sem, hA]) (fun _ _ h => by cases h) (fun pv h => ?_)
    cases h
    exact ⟨_, rfl, by unfold postName; rw [hp]; exact (if_neg (by rw [hi]; decide)).mpr rfl⟩
 ·cases hp : s.toks[s.at_]? with
  | none =>
   unfold postNext at h
   rw [hp] at h
   cases h
   exact ⟨_, rfl, by unfold postName; rw [hp]⟩
  | some x => unfold postNext at h; rw [hp] at h; cases h
def postNum (nf : LTok → Bool) (nv : LTok → Int) (s : RS) (o : Out) : Prop := match s.toks[s.at_]? with
 | some x => if nf x = true then o = .ret (.d (.raw (.int .i64 (nv x)))) (rdL { s with at_ := s.at_ + 1 }) else o = .pan (pvR s)
 | none => o = .pan (pvR s)
set_option maxRecDepth 100000 in
set_option maxHeartbeats 4000000 in
theorem number_r (nf : LTok → Bool) (nv : LTok → Int) (hN : ∀ x : LTok, Con Tryz.prog 136 [avT x] (.d (.raw (.bool (nf x))))) (hI : ∀ x : LTok, nf x = true → Con Tryz.prog 137 [.d (.raw (.string ⟨x.text.toArray⟩))] (.tup [.d (.raw (.int .i64 (nv x))), .d (.raw .nilIface)])) (s : RS) (hs : s.toks.length ≤ 1048576) : ConL Tryz.prog 79 [.box 901 0] (rdL s) (postNum nf nv s) := by
 refine conL_of [901] [910, 911, 912, 913] Tryz.func79 rfl (by decide +kernel) (by simp [Tryz.ntmps79]) fun A hA => ?_
 rw [Tryz.ntmps79] at hA
 refine goC 300 ?_
 simp only [go_sem, hA]
 refine goCallL [901] [910, 911, 912, 913] 300 (next_r s) rfl rfl rfl rfl rfl (by simp only [go_sem, hA]) (fun res L' h => ?_) (fun pv h => ?_)
 ·cases hp : s.toks[s.at_]? with
  | none => unfold postNext at h; rw [hp] at h; cases h
  | some x =>
   have hl := (List.getElem?_eq_some_iff.1 hp).1
   unfold postNext at h
   rw [hp] at h
   cases h
   simp only [go_sem, hA, encT]
   refine goCall 300 (hN x) rfl (by simp only [go_sem]) (by simp only [go_sem, hA]) ?_
   cases hi : nf x with
   | true =>
    simp only [go_sem, hA]
    refine ⟨by unfold inI64; omega, ?_⟩
    refine goCall 300 (hI x hi) rfl (by simp only [go_sem]) (by simp only [go_sem, hA]) ?_
    simp only [go_sem, hA, Tryz.results79]
    trace_state
    exact ⟨_, rfl, rfl, by unfold postNum; rw [hp]; simp only [hi, if_true]; rfl⟩
   | false =>
    simp only [go_sem, hA]
    refine goCallL [901] [910, 911, 912, 913] 300 (fail_c s) rfl rfl rfl rfl rfl (by simp only [go_sem, hA]) (fun _ _ h => by cases h) (fun pv h => ?_)
    cases h
    exact ⟨_, rfl, by unfold postNum; rw [hp]; exact (if_neg (by rw [hi]; decide)).mpr rfl⟩
 ·cases hp : s.toks[s.at_]? with
  | none =>
   unfold postNext at h
   rw [hp] at h
   cases h
   exact ⟨_, rfl, by unfold postNum; rw [hp]⟩
  | some x => unfold postNext at h; rw [hp] at h; cases h
end
section
open Go Go.RowKit
abbrev onlyD (k : Int) : List D := [.raw (.int .i64 k), .raw (.string ⟨#[]⟩), .raw (.int .i64 0), .raw (.string ⟨#[]⟩), .raw (.string ⟨#[]⟩), .raw (.int .i64 0), .raw (.int .i64 0), .sl [], .raw (.int .i64 0), .raw (.int .i64 0), .raw (.int .i64 0)]
theorem only_c (k : Int) : Con Tryz.prog 76 [.d (.raw (.int .i64 k))] (.agg ((onlyD k).map .d)) := by
 refine con_of Tryz.func76 rfl (by decide +kernel) rfl rfl (by simp [Tryz.ntmps76]) fun A hA => ?_
 rw [Tryz.ntmps76] at hA
 refine goC 300 ?_
 simp only [go_sem, hA, Tryz.results76]
end
section
open Go Go.RowKit
attribute [local go_sem] Oper.semAt_some
theorem list11 {α : Type} : ∀ {l : List α}, l.length = 11 → ∃ x0 x1 x2 x3 x4 x5 x6 x7 x8 x9 x10, l = [x0, x1, x2, x3, x4, x5, x6, x7, x8, x9, x10]
 | [_x0, _x1, _x2, _x3, _x4, _x5, _x6, _x7, _x8, _x9, _x10], _ => ⟨_, _, _, _, _, _, _, _, _, _, _, rfl⟩
structure PartsAt (W : World) (b1 o1 : Nat) (vs : List (List Value)) : Prop where
 len : ∀ x ∈ vs, x.length = 11
 pos : 0 < vs.length
 at_ : ∃ b off cap, W.cell? ⟨b1, o1, none⟩ = some (.slice (some ⟨b, off, none⟩) vs.length cap) ∧ vs.length ≤ cap ∧
  ∀ i (h : i < vs.length) j (hj : j < vs[i].length), W.cell? ⟨b, off + i * 11 + j, none⟩ = some vs[i][j]
set_option maxRecDepth 100000 in
set_option maxHeartbeats 4000000 in
theorem back_in (n l b1 o1 : Nat) (hn1 : 1 ≤ n) (vs : List (List Value)) (hbig : vs.length ≤ 1048576) (J : Nat → World → Prop) (hJ : ∀ k W, J k W → PartsAt W b1 o1 vs)
  (hY : ∀ k W (h : k < vs.length), J (vs.length - 1 - k) W → YieldAt Fence.wide (n - 1) Tryz.prog l #[.int .i64 k, .agg vs[k].toArray] W fun e B => e = .returned (.bool true) ∧ J (vs.length - k) B) (W : World) (h0 : J 0 W) :
  CallsIn Fence.wide n Tryz.prog 170 #[.func (.yield l) #[] #[], .pointer (some ⟨b1, o1, none⟩)] W fun e B => (∃ v, e = .returned v) ∧ J vs.length B := by
 have hp0 := hJ _ _ h0
 obtain ⟨b, off, cap, c1, hcap, hcells⟩ := hp0.at_
 refine callsIn_of_wp Tryz.func170 rfl trivial ?_ rfl
 simp only [Tryz.ntmps170, List.size_toArray, List.length_cons, List.length_nil, Nat.reduceAdd, Nat.reduceSub, Array.replicate_succ, Array.replicate_zero, List.push_toArray, List.append_toArray, List.nil_append, List.cons_append]
 gi_wp2_with fail
 gi_loopw [3] (fun v wr => ∃ k : Nat, k ≤ vs.length ∧ v = .int .i64 ((k : Int) - 1) ∧ J (vs.length - k) wr) (fun v _ => (intOf v + 1).toNat)
 case atStart => exact ⟨vs.length, Nat.le_refl _, rfl, by rw [Nat.sub_self]; exact h0⟩
 case round =>
  obtain ⟨k, hk, rfl, hJk⟩ := hrel
  clear c1 hcells
  cases k with
  | zero =>
   have hJ0 := Lib.hid hJk
   clear hJk
   simp only [Int.natCast_zero, Int.zero_sub, Int.reduceNeg]
   gi_wp2_with fail
   go_end0
   exact ⟨⟨_, rfl⟩, by simpa using hJ0.out⟩
  | succ k =>
   have hz : ((k + 1 : Nat) : Int) - 1 = (k : Int) := by omega
   rw [hz]
   obtain ⟨b, off, cap, c1, hcap, hcells⟩ := (hJ _ _ hJk).at_
   have hlen := (hJ _ _ hJk).len
   obtain ⟨fn, tmps, assign, body, hy, hR⟩ := hY k wr (by omega) (by rw [show vs.length - 1 - k = vs.length - (k + 1) by omega]; exact hJk)
   have h11 : vs[k].length = 11 := hlen _ (List.getElem_mem _)
   have HJ := Lib.hid hJk
   clear hJk
   have hd : ∀ j (hj : j < 11), wr.cell? ⟨b, off + k * 11 + j, none⟩ = some (vs[k][j]'(by omega)) := fun j hj => hcells k (by omega) j (by omega)
   obtain ⟨x0, x1, x2, x3, x4, x5, x6, x7, x8, x9, x10, hx⟩ := list11 h11
   have hd' : ∀ j (hj : j < 11), wr.cell? ⟨b, off + k * 11 + j, none⟩ = some ([x0, x1, x2, x3, x4, x5, x6, x7, x8, x9, x10][j]'(by simpa using hj)) := fun j hj => by
    rw [hd j hj]; congr 1; exact List.getElem_of_eq hx _
   have d0 := hd' 0 (by omega)
   have d1 := hd' 1 (by omega)
   have d2 := hd' 2 (by omega)
   have d3 := hd' 3 (by omega)
   have d4 := hd' 4 (by omega)
   have d5 := hd' 5 (by omega)
   have d6 := hd' 6 (by omega)
   have d7 := hd' 7 (by omega)
   have d8 := hd' 8 (by omega)
   have d9 := hd' 9 (by omega)
   have d10 := hd' 10 (by omega)
   simp only [List.getElem_cons_zero, List.getElem_cons_succ, Nat.add_zero] at d0 d1 d2 d3 d4 d5 d6 d7 d8 d9 d10
   rw [hx] at hy
   clear hd hd' hcells hlen h11
   gi_wp2_with fail
   refine hR.mono ?_
   rintro e W3 ⟨rfl, hJ3⟩
   have HJ3 := Lib.hid hJ3
   clear hJ3
   gi_wp2_with fail
   go_roundw
   case rel => exact ⟨k, by omega, rfl, HJ3.out⟩
   case measure => simp [intOf]
end
section
open Go Go.RowKit
attribute [local go_sem] Oper.semAt_some
theorem backward_c (rows : List (List D)) : Con Tryz.prog 134 [.d (.sl rows)] (.fn 170 [.at_ [.sl rows]]) := by
 refine con_ofF [0] Tryz.func134 rfl (by decide +kernel) rfl rfl (by simp [Tryz.ntmps134]) fun A hA => ?_
 rw [Tryz.ntmps134] at hA
 refine goC 300 ?_
 simp only [go_sem, hA, Tryz.results134]
structure PV where
 k : Int
 t : ByteArray
 nk : Int
 nn : ByteArray
 a : Int
 b : Int
 c : Int
abbrev encPV (p : PV) : List D := [.raw (.int .i64 p.k), .raw (.string p.t), .raw (.int .i64 p.nk), .raw (.string p.nn), .raw (.string ⟨#[]⟩), .raw (.int .i64 0), .raw (.int .i64 0), .sl [], .raw (.int .i64 p.a), .raw (.int .i64 p.b), .raw (.int .i64 p.c)]
def Sk.push (k : Sk) (r : List D) : Sk := ⟨k.ver + 1, k.len + 1, k.rows.take k.len ++ [r]⟩
def pushTd (s : RS) (p : PV) : RS := { s with td := s.td.push (encPV p) }
def addTd (s : RS) (l : List PV) : RS := l.reverse.foldl pushTd s
theorem parts_of {w : World} {F : Nat → Nat → Prop} {ps : List PV} {v : Value} (h : Reads w F (.sl (ps.map encPV)) v) (h0 : 0 < ps.length) :
  ∃ b off cap, ∃ vs : List (List Value), v = .slice (some ⟨b, off, none⟩) ps.length cap ∧ ps.length ≤ cap ∧ vs.length = ps.length ∧ (∀ x ∈ vs, x.length = 11) ∧
   ∀ i (h : i < vs.length) (h' : i < ps.length) j (hj : j < vs[i].length) (hj' : j < (encPV ps[i]).length), F b (off + i * 11 + j) ∧ w.cell? ⟨b, off + i * 11 + j, none⟩ = some vs[i][j] ∧ Reads w F (encPV ps[i])[j] vs[i][j] := by
 generalize hrs : ps.map encPV = rows at h
 have hrl : rows.length = ps.length := by rw [← hrs]; simp
 cases h with
 | nil => simp at hrl; omega
 | rows st rows b off cap val hcap hpos hr hcell hsub =>
  have hst : st = 11 := by
   rw [← hr 0 hpos]
   have : rows[0] = encPV ps[0] := by simp [← hrs]
   rw [this]; rfl
  subst hst
  have hri : ∀ i (h : i < ps.length), rows[i]'(by omega) = encPV ps[i] := fun i h => by simp [← hrs]
  refine ⟨b, off, cap, (List.range rows.length).map fun i => (List.range 11).map fun j => val i j, by rw [hrl], by omega, by simp [hrl], fun x hx => ?_, fun i hi hi' j hj hj' => ?_⟩
  ·obtain ⟨i, _, rfl⟩ := List.mem_map.1 hx
   simp
  ·have hj2 : j < 11 := hj'
   have hi2 : i < rows.length := by omega
   have e := hri i hi'
   simp only [List.getElem_map, List.getElem_range]
   refine ⟨(hcell i j hi2 hj2).1, (hcell i j hi2 hj2).2, ?_⟩
   have := hsub i hi2 j (by rw [e]; exact hj')
   simp only [e] at this
   exact this
end
end Go.Proofs.YtnnolijagpakiaaGreatDoor
