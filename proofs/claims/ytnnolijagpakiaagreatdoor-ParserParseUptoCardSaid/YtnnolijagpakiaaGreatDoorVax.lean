/- Texts of this proof, part 24: what the proof uses of them. -/
import Derived.Test.YtnnolijagpakiaaGreatDoorVas
import Derived.Tactics
import Derived.Tactics2
import Derived.Defers
import Derived.Recover
import Derived.Laws.Pointers
import Derived.Test.YtnnolijagpakiaaGreatDoorVav
import Derived.Test.YtnnolijagpakiaaGreatDoorVan
import Derived.Test.YtnnolijagpakiaaGreatDoorVao
namespace Go.Proofs.YtnnolijagpakiaaGreatDoor
section
open Go Go.RowKit
abbrev pvF (n : Int) : Value := .iface 102 (.agg #[.int .i64 n])
theorem assert_fail (n : Int) (w : World) : (Instr.typeAssert (.iface 102 (.agg #[.int .i64 n])) 20 102 true).run Tryz.prog w = .ok (.tuple #[.agg #[.int .i64 n], .bool true]) w := by
 simp [Instr.typeAssert, go_sem]
set_option maxRecDepth 100000 in
set_option maxHeartbeats 400000 in
theorem catch_panic (pe pa : Addr) (x y n : Int) (older : List PanicEntry) (w : World) (hne : pe ≠ pa) (hc : w.cell? pe = some (.int .i64 x)) (hz : w.frozen? pe = false) (hc2 : w.cell? pa = some (.int .i64 y)) (hz2 : w.frozen? pa = false) :
  CallsD Tryz.prog 59 #[.pointer (some pe), .pointer (some pa)] (.panicking ({ v := pvF n, recovered := false } :: older)) w fun e u' w' =>
   e = .returned (.tuple #[]) ∧ u' = .panicking ({ v := pvF n, recovered := true } :: older) ∧ w' = ((w.setCell pe (.int .i64 3)).alloc (.cells #[.int .i64 n] 102)).setCell pa (.int .i64 n) := by
 have hlt : pa.block < w.heap.size := by
  unfold World.cell? at hc2
  by_cases h : pa.block < w.heap.size
  ·exact h
  ·rw [Array.getElem?_eq_none (by omega)] at hc2; cases hc2
 have hcp : ((w.setCell pe (.int .i64 3)).alloc (.cells #[.int .i64 n] 102)).cell? pa = some (.int .i64 y) := by
  rw [World.cell?_alloc_lt _ _ _ (by simpa using hlt), World.cell?_setCell_other (h := hne)]; exact hc2
 have hzp : ((w.setCell pe (.int .i64 3)).alloc (.cells #[.int .i64 n] 102)).frozen? pa = false := by
  rw [World.frozen?_alloc_old _ _ _ (by simp; omega), World.frozen?_setCell]; exact hz2
 refine callsD_of_wpS Tryz.func59 rfl fun c₀ cs hu => ?_
 apply wpS_seq
 apply wpS_region
 simp [wpOpsS, go_sem, recoverD, hu, Tryz.ntmps59, Exit.thenS]
 apply wpS_seq
 apply wpS_region
 simp [wpOpsS, go_sem, recoverD, Exit.thenS, pvF]
 refine wpS_cond (t := true) (by simp [Act.eval, Array.replicate]) ?_
 simp only [if_true]
 apply wpS_seq
 apply wpS_region
 simp [wpOpsS, go_sem, hc, hz, Exit.thenS]
 apply wpS_seq
 apply wpS_region
 simp [wpOpsS, go_sem, assert_fail, Exit.thenS]
 apply wpS_seq
 apply wpS_region
 simp [wpOpsS, go_sem, Exit.thenS]
 refine wpS_cond (t := true) (by simp [Act.eval, Array.replicate]) ?_
 simp only [if_true]
 apply wpS_region
 simp [wpOpsS, go_sem, bodyPostS, results, Tryz.results59, hcp, hzp]
theorem catch_idle (pe pa : Addr) (w : World) :
  CallsD Tryz.prog 59 #[.pointer (some pe), .pointer (some pa)] .returning w fun e u' w' => e = .returned (.tuple #[]) ∧ u' = .returning ∧ w' = w := by
 refine callsD_of_wpS Tryz.func59 rfl fun c₀ cs hu => ?_
 apply wpS_seq
 apply wpS_region
 simp [wpOpsS, go_sem, recoverD, hu, Tryz.ntmps59, Exit.thenS]
 apply wpS_seq
 apply wpS_region
 simp [wpOpsS, go_sem, recoverD, hu, Exit.thenS]
 refine wpS_cond (t := false) (by simp [Act.eval, Array.replicate]) ?_
 simp only [Bool.false_eq_true, if_false]
 refine wpS_of_wp (wp_skip ?_)
 cases c₀
 simp_all [bodyPostS, results, Tryz.results59]
end
section
open Go Go.RowKit
section
variable {P : Program} {F F' : Nat → Nat → Prop} {m : Nat → Nat} {tv : Nat → Value} {w w' : World} {L : Lent}
theorem LentOk.keep0 (h : LentOk P F m tv w L) (hb : ∀ x, L.at m tv x → w'.heap[x]? = w.heap[x]?) (hFF : ∀ b o, F b o → F' b o) (hFn : ∀ b o, F' b o → F b o ∨ ¬ L.at m tv b) (hF : ∀ b o, F b o → w'.heap[b]? = w.heap[b]?) : LentOk P F' m tv w' L := by
 have e : Ext (fun _ => False) ⟨m, tv, F⟩ L.tk w ⟨m, tv, F'⟩ L.tk w' := ⟨hFF, fun b o u hf hu => (cell_block (hF b o hf)).trans hu, fun _ _ => rfl, fun r _ n' hn' => ⟨n', hn', Nat.le_refl _, fun _ => rfl⟩, fun b es c hf hu => (hF b 0 hf).trans hu⟩
 refine ⟨h.nm, h.tnm, h.lo, h.tlo, fun r b hr => (h.at_ r b hr).mono e (fun _ _ => id) (hb _ (.inl ⟨r, b, hr, rfl⟩)), fun r k hr => ?_, fun r b hr o hf => ?_, fun r k x hr hx o hf => ?_, h.inj, h.tokblk, h.toktok⟩
 ·obtain ⟨xs, h1, h2⟩ := h.tat r k hr
  exact ⟨xs, ownsRow_same h1 fun x hx => hb x (.inr ⟨r, k, hr, hx⟩), fun rows hr' => ⟨(h2 rows hr').1, fun i hi j hj => by
   obtain ⟨u, h3, h4⟩ := (h2 rows hr').2 i hi j hj
   exact ⟨u, h3, h4.mono hFF fun b o u hf hu => (cell_block (hF b o hf)).trans hu⟩⟩⟩
 ·rcases hFn _ _ hf with h1 | h1
  ·exact h.nF r b hr o h1
  ·exact h1 (.inl ⟨r, b, hr, rfl⟩)
 ·rcases hFn _ _ hf with h1 | h1
  ·exact h.tF r k x hr hx o h1
  ·exact h1 (.inr ⟨r, k, hr, hx⟩)
theorem LentOk.lt_at (h : LentOk P F m tv w L) {x : Nat} (hx : L.at m tv x) : x < w.heap.size := by
 rcases hx with ⟨r, b, hr, rfl⟩ | ⟨r, k, hr, hx⟩
 ·exact (h.at_ r b hr).lt
 ·exact h.tlt hr hx
end
def postTry (postg : Out → Prop) (o : Out) : Prop := (∃ res L', o = .ret (.tup [.d (.raw (.int .i64 0)), .d (.raw (.int .i64 0))]) L' ∧ postg (.ret res L')) ∨ ∃ n, o = .ret (.tup [.d (.raw (.int .i64 n)), .d (.raw (.int .i64 3))]) ⟨[], []⟩ ∧ postg (.pan (pvF n))
theorem setCell_heap (w : World) (a : Addr) (v : Value) (k : Nat) (h : k ≠ a.block) : (w.setCell a v).heap[k]? = w.heap[k]? := by
 simp only [World.setCell, Array.getElem?_modify]
 rw [if_neg (Ne.symm h)]
theorem setCell_size (w : World) (a : Addr) (v : Value) : (w.setCell a v).heap.size = w.heap.size := by simp [World.setCell]
set_option maxRecDepth 100000 in
set_option maxHeartbeats 2000000 in
theorem try_con {g : FuncId} {cs : List AV} {L : Lent} {postg : Out → Prop} (hc : ConL Tryz.prog g cs L postg) (hpan : ∀ v, postg (.pan v) → ∃ n, v = pvF n) : ConL Tryz.prog 27 [.fn g cs] L (postTry postg) := by
 refine ⟨⟨_, Tryz.func27, by decide +kernel, rfl⟩, fun F w vs m tv hF hG hLok hl hv => ?_⟩
 obtain ⟨v, rfl⟩ : ∃ v, vs = [v] := by
  match vs, hl with
  | [v], _ => exact ⟨v, rfl⟩
 have h0 := hv 0 (by simp) (by simp)
 simp only [List.getElem_cons_zero] at h0
 obtain ⟨us, rfl, hul, hus⟩ := h0.fn_eq
 obtain ⟨hen, hcon⟩ := hc
 generalize hR : (fun (e : Ending) (w' : World) => BelowX w.heap.size (L.at m tv) w w' ∧ _) = R
 refine calls_of_wp_defers Tryz.func27 rfl ?_
 apply wp_seq
 apply wp_region
 simp [wpOps, go_sem, Tryz.ntmps27, Exit.then]
 refine .inl ?_
 refine .inl ?_
 apply wp_seq
 apply wp_region
 have hmf : ∀ (fn : Fn) (first cap : Array Value) (w : World), (Instr.makeFunc fn first cap).run Tryz.prog w = .ok (.func fn first cap) w := fun _ _ _ _ => rfl
 simp [wpOps, go_sem, Exit.then]
 refine .inl ?_
 refine .inl ?_
 apply wp_seq
 apply wp_region
 simp [wpOps, go_sem, Exit.then, run_callFunc hen]
 refine .inl ?_
 refine .inl ?_
 obtain ⟨w2, hw2⟩ : ∃ w2, (w.alloc (.cells #[.int .i64 0] 3)).alloc (.cells #[.int .i64 0] 27) = w2 := ⟨_, rfl⟩
 have hs2 : w2.heap.size = w.heap.size + 2 := by rw [← hw2]; simp
 have hh2 : ∀ k, k < w.heap.size → w2.heap[k]? = w.heap[k]? := fun k hk => by
  rw [← hw2, Below.heap_alloc _ _ k (by simp; omega), Below.heap_alloc _ _ k hk]
 have hbx2 : BelowX w.heap.size (L.at m tv) w w2 := ⟨by rw [← hw2]; rfl, by rw [← hw2]; rfl, by rw [← hw2]; rfl, by omega, fun k hk _ => hh2 k hk⟩
 have e2 : Ext (fun _ => False) ⟨m, tv, F⟩ L.tk w ⟨m, tv, F⟩ L.tk w2 := ⟨fun _ _ h => h, fun b o u hf hu => (cell_block (hh2 b (hF b o hf))).trans hu, fun _ _ => rfl, fun r _ n' hn' => ⟨n', hn', Nat.le_refl _, fun _ => rfl⟩, fun b es c hf hu => (hh2 b (hF b 0 hf)).trans hu⟩
 rw [hw2]
 have hcall := hcon F w2 us m tv (fun b o hf => by have := hF b o hf; omega) (hG.keep hbx2 fun _ hx => lent_lo hLok hx) (hLok.keep0 (fun x hx => hh2 x (hLok.lt_at hx)) (fun _ _ h => h) (fun _ _ h => .inl h) fun b o hf => hh2 b (hF b o hf)) hul (fun i hi hv => (hus i hi hv).mono e2 fun _ _ => id)
 refine hcall.mono ?_
 rintro e w3 ⟨hbx3, h⟩
 have hs3 := hbx3.size
 have hnat : ∀ k, w.heap.size ≤ k → ¬ L.at m tv k := fun k hk hx => by have := hLok.lt_at hx; omega
 have hb0 : w3.heap[w.heap.size]? = some (.cells #[.int .i64 0] 3) := by
  rw [hbx3.block _ (by omega) (hnat _ (Nat.le_refl _)), ← hw2, Below.heap_alloc _ _ _ (by simp)]; exact heap_alloc_new _ _
 have hb1 : w3.heap[w.heap.size + 1]? = some (.cells #[.int .i64 0] 27) := by
  rw [hbx3.block _ (by omega) (hnat _ (by omega)), ← hw2]; have := heap_alloc_new (w.alloc (.cells #[.int .i64 0] 3)) (.cells #[.int .i64 0] 27); rwa [World.size_alloc] at this
 have c0 : w3.cell? ⟨w.heap.size, 0, none⟩ = some (.int .i64 0) := by unfold World.cell?; simp [hb0]
 have z0 : w3.frozen? ⟨w.heap.size, 0, none⟩ = false := by unfold World.frozen?; simp [hb0]
 have c1 : w3.cell? ⟨w.heap.size + 1, 0, none⟩ = some (.int .i64 0) := by unfold World.cell?; simp [hb1]
 have z1 : w3.frozen? ⟨w.heap.size + 1, 0, none⟩ = false := by unfold World.frozen?; simp [hb1]
 have hne : (⟨w.heap.size + 1, 0, none⟩ : Addr) ≠ ⟨w.heap.size, 0, none⟩ := fun e => by have := congrArg Addr.block e; simp at this
 have hbel : ∀ w4 : World, w4.os = w3.os → w4.tape = w3.tape → w4.output = w3.output → w3.heap.size ≤ w4.heap.size → (∀ k, k < w.heap.size → w4.heap[k]? = w3.heap[k]?) → BelowX w.heap.size (L.at m tv) w w4 := fun w4 h1 h2 h3 h4 h5 =>
  ⟨h1.trans (hbx3.os.trans hbx2.os), h2.trans (hbx3.tape.trans hbx2.tape), h3.trans (hbx3.output.trans hbx2.output), by omega, fun k hk hx => (h5 k hk).trans ((hbx3.block k (by omega) hx).trans (hh2 k hk))⟩
 have hpair : ∀ (w4 : World) (G : Nat → Nat → Prop) (x y : Int), HasC w4 G (.tup [.d (.raw (.int .i64 x)), .d (.raw (.int .i64 y))]) (.tuple #[.int .i64 x, .int .i64 y]) := fun w4 G x y => by
  refine .tup _ [.int .i64 x, .int .i64 y] rfl fun i hi hv => ?_
  match i, hi with
  | 0, _ => exact .d (.raw _)
  | 1, _ => exact .d (.raw _)
 rcases h with ⟨v, res, L', m', tv', rfl, hpost, hres, hok, hfn, hsn, hv3, hl3, hfix, hver, hat⟩ | ⟨pv, rfl, hpost⟩
 ·have c1' : (w3.setCell ⟨w.heap.size, 0, none⟩ (.int .i64 0)).cell? ⟨w.heap.size + 1, 0, none⟩ = some (.int .i64 0) := by rw [World.cell?_setCell_other (h := hne.symm)]; exact c1
  have z1' : (w3.setCell ⟨w.heap.size, 0, none⟩ (.int .i64 0)).frozen? ⟨w.heap.size + 1, 0, none⟩ = false := by rw [World.frozen?_setCell]; exact z1
  show Code.wp _ _ _ _ _
  apply wp_seq
  apply wp_region
  simp [wpOps, go_sem, Exit.then, c0, z0, c1', z1']
  refine .inl ?_
  refine .inl ?_
  refine wp_ret ?_
  refine leaves_cons (f := 59) (args := #[.pointer (some ⟨w.heap.size + 1, 0, none⟩), .pointer (some ⟨w.heap.size, 0, none⟩)]) (by simp) (by simp [go_sem]) ?_
  refine (catch_idle ⟨w.heap.size + 1, 0, none⟩ ⟨w.heap.size, 0, none⟩ _).mono ?_
  rintro e u' w'' ⟨rfl, rfl, rfl⟩
  obtain ⟨w4, hw4⟩ : ∃ w4, (w3.setCell ⟨w.heap.size, 0, none⟩ (.int .i64 0)).setCell ⟨w.heap.size + 1, 0, none⟩ (.int .i64 0) = w4 := ⟨_, rfl⟩
  have d0 : w4.cell? ⟨w.heap.size, 0, none⟩ = some (.int .i64 0) := by
   rw [← hw4, World.cell?_setCell_other (h := hne)]
   exact World.cell?_setCell_same _ _ _ c0
  have d1 : w4.cell? ⟨w.heap.size + 1, 0, none⟩ = some (.int .i64 0) := by
   rw [← hw4]
   exact World.cell?_setCell_same _ _ _ c1'
  have hh4 : ∀ k, k ≠ w.heap.size → k ≠ w.heap.size + 1 → w4.heap[k]? = w3.heap[k]? := fun k h1 h2 => by
   rw [← hw4, setCell_heap _ _ _ _ h2, setCell_heap _ _ _ _ h1]
  have hs4 : w4.heap.size = w3.heap.size := by rw [← hw4, setCell_size, setCell_size]
  rw [hw4]
  simp [Leaves, settle, results, Tryz.results27, go_sem, d0, d1]
  rw [← hR]
  have hatk : ∀ x, L'.at m' tv' x → x ≠ w.heap.size ∧ x ≠ w.heap.size + 1 := fun x hx => by
   rcases hat x hx with h | h
   ·have := hLok.lt_at h; omega
   ·omega
  refine ⟨hbel w4 (by rw [← hw4]; rfl) (by rw [← hw4]; rfl) (by rw [← hw4]; rfl) (by omega) (fun k hk => hh4 k (by omega) (by omega)), .inl ⟨_, _, L', m', tv', rfl, .inl ⟨res, L', rfl, hpost⟩, rfl, hok, hfn, hsn, hpair _ _ 0 0, hl3.keep0 (fun x hx => hh4 x (hatk x hx).1 (hatk x hx).2) (fun b o hf => ?_) (fun b o hf => ?_) (fun b o hf => ?_), hfix, hver, fun x hx => (hat x hx).imp (fun h => h) fun h => by omega⟩⟩
  ·exact hf.imp id fun ⟨h1, h2, h3⟩ => ⟨by omega, by omega, h3⟩
  ·rcases hf with h | ⟨h1, h2, h3⟩
   ·exact .inl (.inl h)
   ·exact .inr h3
  ·rcases hf with h | ⟨h1, h2, h3⟩
   ·have := hF b o h; exact hh4 b (by omega) (by omega)
   ·exact hh4 b (by omega) (by omega)
 ·obtain ⟨n, rfl⟩ := hpan pv hpost
  refine leaves_cons (f := 59) (args := #[.pointer (some ⟨w.heap.size + 1, 0, none⟩), .pointer (some ⟨w.heap.size, 0, none⟩)]) (by simp) (by simp [go_sem]) ?_
  refine (catch_panic ⟨w.heap.size + 1, 0, none⟩ ⟨w.heap.size, 0, none⟩ 0 0 n [] w3 hne c1 z1 c0 z0).mono ?_
  rintro e u' w'' ⟨rfl, rfl, rfl⟩
  obtain ⟨w4, hw4⟩ : ∃ w4, ((w3.setCell ⟨w.heap.size + 1, 0, none⟩ (.int .i64 3)).alloc (.cells #[.int .i64 n] 102)).setCell ⟨w.heap.size, 0, none⟩ (.int .i64 n) = w4 := ⟨_, rfl⟩
  have d0 : w4.cell? ⟨w.heap.size, 0, none⟩ = some (.int .i64 n) := by
   rw [← hw4]
   refine World.cell?_setCell_same _ _ _ (u := .int .i64 0) ?_
   rw [World.cell?_alloc_lt _ _ _ (by rw [setCell_size]; show w.heap.size < _; omega), World.cell?_setCell_other (h := hne)]
   exact c0
  have d1 : w4.cell? ⟨w.heap.size + 1, 0, none⟩ = some (.int .i64 3) := by
   rw [← hw4, World.cell?_setCell_other (h := hne.symm), World.cell?_alloc_lt _ _ _ (by rw [setCell_size]; show w.heap.size + 1 < _; omega)]
   exact World.cell?_setCell_same _ _ _ c1
  have hh4 : ∀ k, k < w.heap.size → w4.heap[k]? = w3.heap[k]? := fun k h1 => by
   rw [← hw4, setCell_heap _ _ _ _ (by show k ≠ w.heap.size; omega), Below.heap_alloc _ _ k (by rw [setCell_size]; omega), setCell_heap _ _ _ _ (by show k ≠ w.heap.size + 1; omega)]
  have hs4 : w4.heap.size = w3.heap.size + 1 := by rw [← hw4, setCell_size, World.size_alloc, setCell_size]
  rw [hw4]
  simp [Leaves, settle, results, Tryz.results27, go_sem, d0, d1]
  rw [← hR]
  refine ⟨hbel w4 (by rw [← hw4]; rfl) (by rw [← hw4]; rfl) (by rw [← hw4]; rfl) (by omega) hh4, .inl ⟨_, _, ⟨[], []⟩, m, tv, rfl, .inr ⟨n, rfl, hpost⟩, rfl, fun r b h => by simp [Lent.blk, look] at h, fun r v h => by simp [look] at h, fun r v h => by simp [look] at h, hpair _ _ n 3, ?_, fun _ _ => rfl, fun r k h => by simp [Lent.tok, look] at h, fun x hx => ?_⟩⟩
  ·exact ⟨fun r b h => by simp [Lent.blk, look] at h, fun r b h => by simp [Lent.tok, look] at h, fun r b h => by simp [Lent.blk, look] at h, fun r b x h => by simp [Lent.tok, look] at h, fun r b h => by simp [Lent.blk, look] at h, fun r b h => by simp [Lent.tok, look] at h, fun r b h => by simp [Lent.blk, look] at h, fun r b x h => by simp [Lent.tok, look] at h, fun r b r' b' h => by simp [Lent.blk, look] at h, fun r k r' b x h => by simp [Lent.tok, look] at h, fun r k r' k' x h => by simp [Lent.tok, look] at h⟩
  ·rcases hx with ⟨r, b, h, _⟩ | ⟨r, k, h, _⟩
   ·simp [Lent.blk, look] at h
   ·simp [Lent.tok, look] at h
end
section
open Go Go.RowKit
abbrev avNs (l : List ByteArray) : AV := .d (.sl (encS l))
def pNF : List ByteArray → List KT → PR (List ByteArray)
 | [], l => pNames l
 | [a], l => (pSide l).bind fun b r => (eatT (sg [124, 124]) r).bind fun _ r => (pSide r).bind fun c r => (some [a, b, c], r)
 | a :: b :: _, l => (pSide l).bind fun c r => (some [a, b, c], r)
theorem pNF_nil (l : List KT) : pNF [] l = (pSide l).bind fun a r => if a ≠ ⟨#[]⟩ ∧ r.head? ≠ some (sg [124, 124]) then (some [a], r) else (eatT (sg [124, 124]) r).bind fun _ r => pNF [a] r := rfl
theorem pNF_one (a : ByteArray) (l : List KT) : pNF [a] l = (pSide l).bind fun b r => (eatT (sg [124, 124]) r).bind fun _ r => pNF [a, b] r := rfl
theorem pNF_two (a b : ByteArray) (l : List KT) : pNF [a, b] l = (pSide l).bind fun c r => (some [a, b, c], r) := rfl
abbrev sdSt (s : RS) (l : List ByteArray) : St := ⟨[(0, .box 901 0), (3, .grow 99 (encS l))], [(901, some (rdBlk s))], (rdL s).toks ++ [(99, some ⟨1, 9, l.length, none⟩)]⟩
theorem sd_eq (s : RS) (l : List ByteArray) (x : ByteArray) : (⟨[(0, .box 901 0), (3, .grow 99 (encS l ++ [[.raw (.string x)]]))], [(901, some (rdBlk s))], (rdL s).toks ++ [(99, some ⟨1, 9, l.length + 1, none⟩)]⟩ : St) = sdSt s (l ++ [x]) := by
 unfold sdSt
 rw [← encS_append, List.length_append]; rfl
theorem pSide_nil {l r : List KT} (h : l = (1, [110, 105, 108]) :: r) : pSide l = (some ⟨#[]⟩, r) := by
 rw [h, pSide, if_pos (show (1, [110, 105, 108]) = wd wNil from rfl)]
theorem pSide_name {l : List KT} (h : l.head? ≠ some (1, [110, 105, 108])) : pSide l = pName l := by
 cases l with
 | nil => rfl
 | cons y r =>
  rw [pSide, if_neg]
  rintro rfl
  exact h rfl
theorem pNF_none {l : List ByteArray} {q r : List KT} (h : pSide q = (none, r)) : pNF l q = (none, r) := by
 match l with
 | [] => rw [pNF_nil, h]; rfl
 | [a] => rw [pNF_one, h]; rfl
 | a :: b :: _ => show (pSide q).bind _ = _; rw [h]; rfl
theorem pan_side {l : List ByteArray} {q r : List KT} {t : List LTok} (h : pSide q = (none, r)) : PostR t (pNF l q) avNs (.pan (pvA (t.length - r.length))) := by
 rw [pNF_none h]; rfl
set_option maxRecDepth 100000 in
set_option maxHeartbeats 16000000 in
theorem sides_r (hN : HN) (s : RS) (t : List LTok) (hS : Rdy s t) :
  ConL Tryz.prog 117 [.box 901 0] (rdL s) (PostR t (pNames (restK s)) avNs) := by
 refine conL_of [901] [910, 911, 912, 913] Tryz.func117 rfl (by decide +kernel) (by simp [Tryz.ntmps117]) fun A hA => ?_
 rw [Tryz.ntmps117] at hA
 refine goC 18 ?_
 simp only [go_sem, hA]
 refine satC_growTmp 99 3 1 9 (by simp only [go_sem]) rfl ?_
 refine satC_loop [0, 3] [901] [910, 911, 912, 913, 99] (fun n σ => ∃ (s1 : RS) (l : List ByteArray), l.length + n = 2 ∧ Rdy s1 t ∧ pNF l (restK s1) = pNames (restK s) ∧ σ = sdSt s1 l) 2 ⟨s, [], rfl, hS, rfl, by simp only [go_sem, sdSt]; rfl⟩ ?_
 rintro n σ ⟨s1, l, hl, hS1, hp, rfl⟩
 have ht1 := hS1.few'
 have hlt := hS1.le
 refine goC 1 ?_
 simp only [go_sem, sdSt]
 refine goMid 100600 [0, 3] [901] [910, 911, 912, 913, 99] (fun σ => ∃ x s2, pSide (restK s1) = (some x, restK s2) ∧ Rdy s2 t ∧ σ = sdSt s2 (l ++ [x])) ?_ ?_
 ·simp only [go_sem, hA]
  refine goCallL [901] [910, 911, 912, 913] 100600 (is_r s1 1 ⟨#[110, 105, 108]⟩) rfl rfl rfl rfl rfl (by simp only [go_sem, hA]) (fun res L' h => ?_) (fun pv h => by cases h)
  cases h
  cases b1 : isR s1 1 ⟨#[110, 105, 108]⟩ with
  | true =>
   obtain ⟨x, h1, h2, h3⟩ := hS1.is_t (w := [110, 105, 108]) b1
   simp only [go_sem, hA]
   exact ⟨by unfold inI64; have := hS1.at_; have := hS1.few; omega, ⟨encS_length l, encS_fit [⟨#[]⟩], encS_row l, by rw [encS_length]; omega⟩, ⟨#[]⟩, adv s1 1, pSide_nil h2, h3, sd_eq (adv s1 1) l ⟨#[]⟩⟩
  | false =>
   have h2 := is_f (w := [110, 105, 108]) b1
   simp only [go_sem, hA]
   refine goCallL [901] [910, 911, 912, 913] 100600 (name_r nfK hN s1 ht1) rfl rfl rfl rfl rfl (by simp only [go_sem, hA]) (fun res L' h => ?_) (fun pv h => ?_)
   rotate_left
   ·obtain ⟨r, e1, e2⟩ := (hS1.name h).pan
    subst e2
    have hr : pSide (restK s1) = (none, r) := by rw [pSide_name h2, e1]
    exact ⟨_, rfl, by rw [← hp]; exact pan_side hr⟩
   obtain ⟨x, s2, e1, rfl, rfl, hS2⟩ := (hS1.name h).ret
   simp only [go_sem, hA]
   exact ⟨⟨encS_length l, encS_fit [x], encS_row l, by rw [encS_length]; omega⟩, x, s2, by rw [pSide_name h2, e1], hS2, sd_eq _ _ _⟩
 rintro σ ⟨x, s2, hx, hS2, rfl⟩
 have ht2 := hS2.few'
 have d13 : decide ((1 : Int) = 3) = false := rfl
 have d11 : decide ((1 : Int) = 1) = true := rfl
 have d23 : decide ((2 : Int) = 3) = false := rfl
 have d21 : decide ((2 : Int) = 1) = false := rfl
 have d33 : decide ((3 : Int) = 3) = true := rfl
 match l, hl with
 | [], hl =>
  rw [pNF_nil, hx, PR.bind_some] at hp
  have gx : [[D.raw (.string x)]].getD 0 [] = [.raw (.string x)] := rfl
  show SatC _ A _ (⟨[(0, .box 901 0), (3, .grow 99 [[.raw (.string x)]])], [(901, some (rdBlk s2))], (rdL s2).toks ++ [(99, some ⟨1, 9, 1, none⟩)]⟩ : St) _
  refine goC 100600 ?_
  by_cases hz : x = ⟨#[]⟩
  ·have z1 : decide (¬ x = ⟨#[]⟩) = false := decide_eq_false (not_not_intro hz)
   rw [if_neg (by simp [hz])] at hp
   simp only [go_sem, hA, d13, undef, gx, z1]
   refine goCallL [901] [910, 911, 912, 913] 100600 (expect_r s2 4 ⟨#[124, 124]⟩ ht2) rfl rfl rfl rfl rfl (by simp only [go_sem, hA]) (fun res L' h => ?_) (fun pv h => ?_)
   rotate_left
   ·obtain ⟨r, e1, e2⟩ := (hS2.expect 4 [124, 124] h).pan
    subst e2
    rw [show eatT (sg [124, 124]) (restK s2) = (none, r) from e1] at hp
    exact ⟨_, rfl, by rw [← hp]; rfl⟩
   obtain ⟨u, s3, e1, rfl, rfl, hS3⟩ := (hS2.expect 4 [124, 124] h).ret
   rw [show eatT (sg [124, 124]) (restK s2) = (some u, restK s3) from e1, PR.bind_some] at hp
   simp only [go_sem]
   exact ⟨n - 1, by simp at hl; omega, s3, [x], by simp at hl ⊢; omega, hS3, hp, rfl⟩
  ·have z1 : decide (¬ x = ⟨#[]⟩) = true := decide_eq_true hz
   simp only [go_sem, hA, d13, gx, z1]
   refine goCallL [901] [910, 911, 912, 913] 100600 (is_r s2 4 ⟨#[124, 124]⟩) rfl rfl rfl rfl rfl (by simp only [go_sem, hA]) (fun res L' h => ?_) (fun pv h => by cases h)
   cases h
   cases b2 : isR s2 4 ⟨#[124, 124]⟩ with
   | true =>
    obtain ⟨y, h1, h2, h3⟩ := hS2.is_t (w := [124, 124]) b2
    rw [if_neg (by rw [h2]; simp)] at hp
    simp only [go_sem, hA]
    refine goCallL [901] [910, 911, 912, 913] 100600 (expect_r s2 4 ⟨#[124, 124]⟩ ht2) rfl rfl rfl rfl rfl (by simp only [go_sem, hA]) (fun res L' h => ?_) (fun pv h => ?_)
    rotate_left
    ·obtain ⟨r, e1, e2⟩ := (hS2.expect 4 [124, 124] h).pan
     subst e2
     rw [show eatT (sg [124, 124]) (restK s2) = (none, r) from e1] at hp
     exact ⟨_, rfl, by rw [← hp]; rfl⟩
    obtain ⟨u, s3, e1, rfl, rfl, hS3⟩ := (hS2.expect 4 [124, 124] h).ret
    rw [show eatT (sg [124, 124]) (restK s2) = (some u, restK s3) from e1, PR.bind_some] at hp
    simp only [go_sem]
    exact ⟨n - 1, by simp at hl; omega, s3, [x], by simp at hl ⊢; omega, hS3, hp, rfl⟩
   | false =>
    have h2 := is_f (w := [124, 124]) b2
    rw [if_pos ⟨hz, h2⟩] at hp
    simp only [go_sem, hA, Tryz.results117]
    exact ⟨_, rfl, rfl, by rw [← hp]; exact ⟨s2, rfl, hS2, rfl⟩⟩
 | [a], hl =>
  rw [pNF_one, hx, PR.bind_some] at hp
  show SatC _ A _ (⟨[(0, .box 901 0), (3, .grow 99 [[.raw (.string a)], [.raw (.string x)]])], [(901, some (rdBlk s2))], (rdL s2).toks ++ [(99, some ⟨1, 9, 2, none⟩)]⟩ : St) _
  refine goC 100600 ?_
  simp only [go_sem, hA, d23, d21, undef]
  refine goCallL [901] [910, 911, 912, 913] 100600 (expect_r s2 4 ⟨#[124, 124]⟩ ht2) rfl rfl rfl rfl rfl (by simp only [go_sem, hA]) (fun res L' h => ?_) (fun pv h => ?_)
  rotate_left
  ·obtain ⟨r, e1, e2⟩ := (hS2.expect 4 [124, 124] h).pan
   subst e2
   rw [show eatT (sg [124, 124]) (restK s2) = (none, r) from e1] at hp
   exact ⟨_, rfl, by rw [← hp]; rfl⟩
  obtain ⟨u, s3, e1, rfl, rfl, hS3⟩ := (hS2.expect 4 [124, 124] h).ret
  rw [show eatT (sg [124, 124]) (restK s2) = (some u, restK s3) from e1, PR.bind_some] at hp
  simp only [go_sem]
  exact ⟨n - 1, by simp at hl; omega, s3, [a, x], by simp at hl ⊢; omega, hS3, hp, rfl⟩
 | [a, b], hl =>
  rw [pNF_two, hx, PR.bind_some] at hp
  show SatC _ A _ (⟨[(0, .box 901 0), (3, .grow 99 [[.raw (.string a)], [.raw (.string b)], [.raw (.string x)]])], [(901, some (rdBlk s2))], (rdL s2).toks ++ [(99, some ⟨1, 9, 3, none⟩)]⟩ : St) _
  refine goC 100600 ?_
  simp only [go_sem, hA, undef, Tryz.results117]
  exact ⟨_, rfl, rfl, by rw [← hp]; exact ⟨s2, rfl, hS2, rfl⟩⟩
 | _ :: _ :: _ :: _, hl => simp at hl; omega
end
section
open Go Go.RowKit
def pUse (l : List KT) : PR ByteArray := (pLab l).bind fun x r => (eatT (sg [59]) r).bind fun _ r => (some x, r)
set_option maxRecDepth 100000 in
set_option maxHeartbeats 16000000 in
theorem use_r (s : RS) (t : List LTok) (hS : Rdy s t) :
  ConL Tryz.prog 61 [.box 901 0] (rdL s) (PostR t (pUse (restK s)) avB) := by
 have hat := hS.at_
 have hfw := hS.few
 have ht := hS.few'
 refine conL_of [901] [910, 911, 912, 913] Tryz.func61 rfl (by decide +kernel) (by simp [Tryz.ntmps61]) fun A hA => ?_
 rw [Tryz.ntmps61] at hA
 refine goC 100600 ?_
 simp only [go_sem, hA]
 refine goCallL [901] [910, 911, 912, 913] 100600 (next_r s) rfl rfl rfl rfl rfl (by simp only [go_sem, hA]) (fun res L' h => ?_) (fun pv h => ?_)
 rotate_left
 ·unfold postNext at h
  rcases hS.cases with ⟨h1, h2⟩ | ⟨x, h1, h2, h3⟩
  ·rw [h1] at h
   cases h
   exact ⟨_, rfl, by rw [hS.pvR, h2]; rfl⟩
  ·rw [h1] at h; cases h
 unfold postNext at h
 rcases hS.cases with ⟨h1, h2⟩ | ⟨x, h1, h2, h3⟩
 ·rw [h1] at h; cases h
 rw [h1] at h
 cases h
 have hfail : labelT (kt x) = false → PostR t (pUse (restK s)) avB (.pan (pvR s)) := fun hl => by
  unfold pUse
  rw [h2, pLab, hl, hS.pvR, h2]; rfl
 have hl : labelT (kt x) = ((decide (x.kind = 1) || decide (x.kind = 2)) && labelL x.text) := rfl
 have hgo : labelT (kt x) = true → ∀ h : True, pUse (restK s) = (eatT (sg [59]) (restK (adv s 1))).bind fun _ r => (some (bT x), r) := fun hl _ => by
  unfold pUse
  rw [h2, pLab, if_pos hl]; rfl
 have clab := sLabel_c (bT x)
 rw [show (bT x).data.toList = x.text from rfl] at clab
 by_cases k1 : x.kind = 1
 ·have d1 : decide (¬ x.kind = 1) = false := decide_eq_false (not_not_intro k1)
  simp only [go_sem, hA, encT, undef, d1]
  refine goCall 100600 clab rfl (by simp only [go_sem]) (by simp only [go_sem, hA]) ?_
  cases hb : labelL x.text with
  | false =>
   simp only [go_sem, hA]
   refine goCallL [901] [910, 911, 912, 913] 100600 (fail_c s) rfl rfl rfl rfl rfl (by simp only [go_sem, hA]) (fun _ _ h => by cases h) (fun pv h => ?_)
   cases h
   exact ⟨_, rfl, hfail (by rw [hl, hb]; simp)⟩
  | true =>
   have hu := hgo (by rw [hl, hb, decide_eq_true k1]; rfl) trivial
   simp only [go_sem, hA]
   refine ⟨by unfold inI64; omega, ?_⟩
   refine goCallL [901] [910, 911, 912, 913] 100600 (expect_r (adv s 1) 4 ⟨#[59]⟩ ht) rfl rfl rfl rfl rfl (by simp only [go_sem, hA]) (fun res L' h => ?_) (fun pv h => ?_)
   rotate_left
   ·obtain ⟨r, e1, e2⟩ := (h3.expect 4 [59] h).pan
    subst e2
    exact ⟨_, rfl, by rw [hu, show eatT (sg [59]) (restK (adv s 1)) = (none, r) from e1]; rfl⟩
   obtain ⟨u, s3, e1, rfl, rfl, hS3⟩ := (h3.expect 4 [59] h).ret
   simp only [go_sem, hA, Tryz.results61]
   exact ⟨_, rfl, rfl, by rw [hu, show eatT (sg [59]) (restK (adv s 1)) = (some u, restK s3) from e1]; exact ⟨s3, rfl, hS3, rfl⟩⟩
 ·have d1 : decide (¬ x.kind = 1) = true := decide_eq_true k1
  by_cases k2 : x.kind = 2
  ·have d2 : decide (¬ x.kind = 2) = false := decide_eq_false (not_not_intro k2)
   simp only [go_sem, hA, encT, d1, d2]
   refine goCall 100600 clab rfl (by simp only [go_sem]) (by simp only [go_sem, hA]) ?_
   cases hb : labelL x.text with
   | false =>
    simp only [go_sem, hA]
    refine goCallL [901] [910, 911, 912, 913] 100600 (fail_c s) rfl rfl rfl rfl rfl (by simp only [go_sem, hA]) (fun _ _ h => by cases h) (fun pv h => ?_)
    cases h
    exact ⟨_, rfl, hfail (by rw [hl, hb]; simp)⟩
   | true =>
    have hu := hgo (by rw [hl, hb, decide_eq_false k1, decide_eq_true k2]; rfl) trivial
    simp only [go_sem, hA]
    refine ⟨by unfold inI64; omega, ?_⟩
    refine goCallL [901] [910, 911, 912, 913] 100600 (expect_r (adv s 1) 4 ⟨#[59]⟩ ht) rfl rfl rfl rfl rfl (by simp only [go_sem, hA]) (fun res L' h => ?_) (fun pv h => ?_)
    rotate_left
    ·obtain ⟨r, e1, e2⟩ := (h3.expect 4 [59] h).pan
     subst e2
     exact ⟨_, rfl, by rw [hu, show eatT (sg [59]) (restK (adv s 1)) = (none, r) from e1]; rfl⟩
    obtain ⟨u, s3, e1, rfl, rfl, hS3⟩ := (h3.expect 4 [59] h).ret
    simp only [go_sem, hA, Tryz.results61]
    exact ⟨_, rfl, rfl, by rw [hu, show eatT (sg [59]) (restK (adv s 1)) = (some u, restK s3) from e1]; exact ⟨s3, rfl, hS3, rfl⟩⟩
  ·have d2 : decide (¬ x.kind = 2) = true := decide_eq_true k2
   simp only [go_sem, hA, encT, undef, d1, d2]
   refine goCallL [901] [910, 911, 912, 913] 100600 (fail_c s) rfl rfl rfl rfl rfl (by simp only [go_sem, hA]) (fun _ _ h => by cases h) (fun pv h => ?_)
   cases h
   exact ⟨_, rfl, hfail (by rw [hl, decide_eq_false k1, decide_eq_false k2]; rfl)⟩
end
section
open Go Go.RowKit
abbrev nilD : D := .raw (.slice none 0 0)
abbrev zeroE : List D := [.raw (.int .i64 0), .raw (.string ⟨#[]⟩), .raw (.string ⟨#[]⟩), .raw (.int .i64 0), .raw (.int .i64 0), nilD]
abbrev dclB (id k : Int) (pub : Bool) (nm : D) (db : Bool) (b : List D) : Blk := .cell 57 ([.d (.raw (.int .i64 id)), .d (.raw (.int .i64 k)), .d (.raw (.bool pub)), .d nm, .d (.raw (.bool db))] ++ b.map .d)
abbrev dclZ : Blk := dclB 0 0 false nilD false zeroE
abbrev dSt (s : RS) (id k : Int) (pub : Bool) (nm : D) (db : Bool) (b : List D) : St := ⟨[(0, .box 901 0), (2, .box 0 0), (3, .d (.raw (.int .i64 0))), (4, .box 1000 0)], [(901, some (rdBlk s)), (0, some dclZ), (1000, some (dclB id k pub nm db b))], (rdL s).toks⟩
abbrev dSt5 (s : RS) (at_ : Nat) (id k : Int) (pub : Bool) (nm : D) (db : Bool) (b : List D) : St := ⟨[(0, .box 901 0), (2, .box 0 0), (3, .d (.raw (.int .i64 0))), (4, .box 1000 0), (5, .d (.raw (.int .i64 at_)))], [(901, some (rdBlk s)), (0, some dclZ), (1000, some (dclB id k pub nm db b))], (rdL s).toks⟩
def encDN (t : List LTok) (d : Dc × Nat) : AV := .tup [avD d.1, .d (.raw (.int .i64 (t.length - d.2 : Nat)))]
theorem pFlag_t {w : List UInt8} {l r : List KT} (h : l = (1, w) :: r) : pFlag w l = (true, r) := by
 rw [h, pFlag, if_pos (show ((1, w) :: r : List KT).head? = some (wd w) from rfl)]; rfl
theorem pFlag_f {w : List UInt8} {l : List KT} (h : l.head? ≠ some (1, w)) : pFlag w l = (false, l) := by
 rw [pFlag, if_neg (show ¬ l.head? = some (wd w) from h)]
theorem pKind_t {l r : List KT} {k : Int} {w : List UInt8} (h : l = (1, w) :: r) (hw : (if (1, w) = wd wLet then (some 1, r) else if (1, w) = wd wTest then (some 2, r) else if (1, w) = wd wFlaky then (some 3, r) else (none, (1, w) :: r)) = (some k, r)) : pKind l = (some k, r) := by
 rw [h, pKind]; exact hw
theorem pKind_f {l : List KT} (h1 : l.head? ≠ some (1, wLet)) (h2 : l.head? ≠ some (1, wTest)) (h3 : l.head? ≠ some (1, wFlaky)) : pKind l = (none, l) := by
 cases l with
 | nil => rfl
 | cons y r =>
  have e : ∀ w, (y :: r).head? ≠ some (1, w) → ¬ y = wd w := fun w h e => h (by rw [e]; rfl)
  rw [pKind, if_neg (e _ h1), if_neg (e _ h2), if_neg (e _ h3)]
theorem pId_t {l r : List KT} (h : l = (4, [64]) :: r) : pId l = pPos r := by
 rw [h, pId, if_pos (show ((4, [64]) :: r : List KT).head? = some (sg [64]) from rfl)]; rfl
theorem pId_f {l : List KT} (h : l.head? ≠ some (4, [64])) : pId l = (some 0, l) := by
 rw [pId, if_neg (show ¬ l.head? = some (sg [64]) from h)]
theorem pPos_zero {y : KT} {r : List KT} (h : y.2 = [48]) : pPos (y :: r) = (none, y :: r) := by
 rw [pPos, if_neg]
 rintro ⟨_, h2⟩
 rw [h] at h2
 exact h2 rfl
theorem pPos_num {y : KT} {r : List KT} (h : y.2 ≠ [48]) : pPos (y :: r) = pNum (y :: r) := by
 rw [pPos, pNum]
 by_cases hn : numT y = true
 ·have h1 : numberL y.2 = true := by unfold numT at hn; simp only [Bool.and_eq_true] at hn; exact hn.2
  rw [if_pos ⟨hn, numV_zero h1 h⟩, if_pos hn]
 ·rw [if_neg (fun h => hn h.1), if_neg hn]
theorem fuel_expr {s : RS} {t : List LTok} (hS : Rdy s t) : pE ((restK s).length + 1) (restK s) = pE (t.length + 1) (restK s) := by
 refine pE_fuel _ _ _ (Nat.lt_succ_self _) ?_
 have := hS.pos
 have h2 : (restK s).length ≤ t.length := by unfold restK; rw [List.length_map, List.length_drop, hS.toks]; omega
 omega
set_option maxRecDepth 100000 in
set_option maxHeartbeats 32000000 in
theorem decl_r (hN : HN) (hM : HM) (hI : HI) (s : RS) (t : List LTok) (hS : Rdy s t) :
  ConL Tryz.prog 62 [.box 901 0] (rdL s) (PostR t (pDecl (t.length + 1) (restK s)) (encDN t)) := by
 have hfw := hS.few
 refine conL_of [901] [910, 911, 912, 913] Tryz.func62 rfl (by decide +kernel) (by simp [Tryz.ntmps62]) fun A hA => ?_
 rw [Tryz.ntmps62] at hA
 refine goMid 300 [0, 2, 3] [901, 0] [910, 911, 912, 913] (fun σ => σ = (⟨[(0, .box 901 0), (2, .box 0 0), (3, .d (.raw (.int .i64 0)))], [(901, some (rdBlk s)), (0, some dclZ)], (rdL s).toks⟩ : St)) (by simp only [go_sem, hA]; rfl) ?_
 rintro σ rfl
 refine goMid 300 [0, 2, 3, 4] [901, 0, 1000] [910, 911, 912, 913] (fun σ => σ = dSt s 0 0 false nilD false zeroE) (by simp only [go_sem, hA]; rfl) ?_
 rintro σ rfl
 refine goMid 100600 [0, 2, 3, 4] [901, 0, 1000] [910, 911, 912, 913] (fun σ => ∃ s1 db, pFlag wConflict (restK s) = (db, restK s1) ∧ Rdy s1 t ∧ σ = dSt s1 0 0 false nilD db zeroE) ?_ ?_
 ·have hat := hS.at_
  simp only [go_sem, hA]
  refine goCallL [901] [910, 911, 912, 913] 100600 (is_r s 1 ⟨#[99, 111, 110, 102, 108, 105, 99, 116]⟩) rfl rfl rfl rfl rfl (by simp only [go_sem, hA]) (fun res L' h => ?_) (fun pv h => by cases h)
  cases h
  cases b1 : isR s 1 ⟨#[99, 111, 110, 102, 108, 105, 99, 116]⟩ with
  | true =>
   obtain ⟨x, h1, h2, h3⟩ := hS.is_t (w := wConflict) b1
   simp only [go_sem, hA]
   exact ⟨by unfold inI64; omega, adv s 1, true, pFlag_t h2, h3, rfl⟩
  | false =>
   have h2 := is_f (w := wConflict) b1
   simp only [go_sem]
   exact ⟨s, false, pFlag_f h2, hS, rfl⟩
 rintro σ ⟨s1, db, hs1, hS1, rfl⟩
 refine goMid 100600 [0, 2, 3, 4] [901, 0, 1000] [910, 911, 912, 913] (fun σ => ∃ s2 pub, pFlag wPub (restK s1) = (pub, restK s2) ∧ Rdy s2 t ∧ σ = dSt s2 0 0 pub nilD db zeroE) ?_ ?_
 ·have hat := hS1.at_
  simp only [go_sem, hA]
  refine goCallL [901] [910, 911, 912, 913] 100600 (is_r s1 1 ⟨#[112, 117, 98]⟩) rfl rfl rfl rfl rfl (by simp only [go_sem, hA]) (fun res L' h => ?_) (fun pv h => by cases h)
  cases h
  cases b1 : isR s1 1 ⟨#[112, 117, 98]⟩ with
  | true =>
   obtain ⟨x, h1, h2, h3⟩ := hS1.is_t (w := wPub) b1
   simp only [go_sem, hA]
   exact ⟨by unfold inI64; omega, adv s1 1, true, pFlag_t h2, h3, rfl⟩
  | false =>
   have h2 := is_f (w := wPub) b1
   simp only [go_sem]
   exact ⟨s1, false, pFlag_f h2, hS1, rfl⟩
 rintro σ ⟨s2, pub, hs2, hS2, rfl⟩
 have hD : pDecl (t.length + 1) (restK s) = pBody (t.length + 1) db pub (restK s2) := by unfold pDecl; rw [hs1]; simp only; rw [hs2]
 rw [hD]
 refine goMid 100600 [0, 2, 3, 4] [901, 0, 1000] [910, 911, 912, 913] (fun σ => ∃ k x, s2.toks[s2.at_]? = some x ∧ pKind (restK s2) = (some k, restK (adv s2 1)) ∧ Rdy (adv s2 1) t ∧ σ = dSt s2 0 k pub nilD db zeroE) ?_ ?_
 ·simp only [go_sem, hA]
  refine goCallL [901] [910, 911, 912, 913] 100600 (is_r s2 1 ⟨#[108, 101, 116]⟩) rfl rfl rfl rfl rfl (by simp only [go_sem, hA]) (fun res L' h => ?_) (fun pv h => by cases h)
  cases h
  cases b1 : isR s2 1 ⟨#[108, 101, 116]⟩ with
  | true =>
   obtain ⟨x, h1, h2, h3⟩ := hS2.is_t (w := wLet) b1
   simp only [go_sem, hA]
   exact ⟨1, x, h1, pKind_t h2 (by simp only [wd, wLet, wTest, wFlaky]; simp), h3, rfl⟩
  | false =>
   simp only [go_sem, hA]
   refine goCallL [901] [910, 911, 912, 913] 100600 (is_r s2 1 ⟨#[116, 101, 115, 116]⟩) rfl rfl rfl rfl rfl (by simp only [go_sem, hA]) (fun res L' h => ?_) (fun pv h => by cases h)
   cases h
   cases b2 : isR s2 1 ⟨#[116, 101, 115, 116]⟩ with
   | true =>
    obtain ⟨x, h1, h2, h3⟩ := hS2.is_t (w := wTest) b2
    simp only [go_sem, hA]
    exact ⟨2, x, h1, pKind_t h2 (by simp only [wd, wLet, wTest, wFlaky]; simp), h3, rfl⟩
   | false =>
    simp only [go_sem, hA]
    refine goCallL [901] [910, 911, 912, 913] 100600 (is_r s2 1 ⟨#[102, 108, 97, 107, 121]⟩) rfl rfl rfl rfl rfl (by simp only [go_sem, hA]) (fun res L' h => ?_) (fun pv h => by cases h)
    cases h
    cases b3 : isR s2 1 ⟨#[102, 108, 97, 107, 121]⟩ with
    | true =>
     obtain ⟨x, h1, h2, h3⟩ := hS2.is_t (w := wFlaky) b3
     simp only [go_sem, hA]
     exact ⟨3, x, h1, pKind_t h2 (by simp only [wd, wLet, wTest, wFlaky]; simp), h3, rfl⟩
    | false =>
     simp only [go_sem, hA]
     refine goCallL [901] [910, 911, 912, 913] 100600 (fail_c s2) rfl rfl rfl rfl rfl (by simp only [go_sem, hA]) (fun _ _ h => by cases h) (fun pv h => ?_)
     cases h
     exact ⟨_, rfl, by unfold pBody; rw [pKind_f (is_f (w := wLet) b1) (is_f (w := wTest) b2) (is_f (w := wFlaky) b3), hS2.pvR]; rfl⟩
 rintro σ ⟨k, x0, hx0, hk, hS3, rfl⟩
 have hat2 := hS2.at_
 have hx1 := (List.getElem?_eq_some_iff.1 hx0).1
 refine goMid 300 [0, 2, 3, 4] [901, 0, 1000] [910, 911, 912, 913] (fun σ => σ = dSt (adv s2 1) 0 k pub nilD db zeroE) ?_ ?_
 ·simp only [go_sem, hA]
  exact ⟨by unfold inI64; omega, rfl⟩
 rintro σ rfl
 refine goMid 300 [0, 2, 3, 4, 5] [901, 0, 1000] [910, 911, 912, 913] (fun σ => σ = dSt5 (adv s2 1) (adv s2 1).at_ 0 k pub nilD db zeroE) (by simp only [go_sem, hA]) ?_
 rintro σ rfl
 refine goMid 300 [0, 2, 3, 4, 5] [901, 0, 1000] [910, 911, 912, 913] (fun σ => ∃ ns s4, pNames (restK (adv s2 1)) = (some ns, restK s4) ∧ Rdy s4 t ∧ σ = dSt5 s4 (adv s2 1).at_ 0 k pub (.sl (encS ns)) db zeroE) ?_ ?_
 ·simp only [go_sem, hA]
  refine goCallL [901] [910, 911, 912, 913] 100600 (sides_r hN (adv s2 1) t hS3) rfl rfl rfl rfl rfl (by simp only [go_sem, hA]) (fun res L' h => ?_) (fun pv h => ?_)
  rotate_left
  ·obtain ⟨r, e1, e2⟩ := h.pan
   subst e2
   exact ⟨_, rfl, by unfold pBody; rw [hk, PR.bind_some, e1]; rfl⟩
  obtain ⟨ns, s4, e1, rfl, rfl, hS4⟩ := h.ret
  simp only [go_sem, hA]
  exact ⟨ns, s4, e1, hS4, rfl⟩
 rintro σ ⟨ns, s4, hns, hS4, rfl⟩
 have hat4 := hS4.at_
 refine goMid 100600 [0, 2, 3, 4, 5] [901, 0, 1000] [910, 911, 912, 913] (fun σ => ∃ i s5, pId (restK s4) = (some i, restK s5) ∧ Rdy s5 t ∧ σ = dSt5 s5 (adv s2 1).at_ i k pub (.sl (encS ns)) db zeroE) ?_ ?_
 ·have hno : ∀ {r}, pId (restK s4) = (none, r) → PostR t (pBody (t.length + 1) db pub (restK s2)) (encDN t) (.pan (pvA (t.length - r.length))) := fun {r} e => by
   unfold pBody; rw [hk, PR.bind_some, hns, PR.bind_some, e]; rfl
  simp only [go_sem, hA]
  refine goCallL [901] [910, 911, 912, 913] 100600 (is_r s4 4 ⟨#[64]⟩) rfl rfl rfl rfl rfl (by simp only [go_sem, hA]) (fun res L' h => ?_) (fun pv h => by cases h)
  cases h
  cases b1 : isR s4 4 ⟨#[64]⟩ with
  | false =>
   simp only [go_sem]
   exact ⟨0, s4, pId_f (is_f (w := [64]) b1), hS4, rfl⟩
  | true =>
   obtain ⟨x, h1, h2, h3⟩ := hS4.is_t (w := [64]) b1
   have hid := pId_t h2
   simp only [go_sem, hA]
   refine ⟨by unfold inI64; omega, ?_⟩
   refine goCallL [901] [910, 911, 912, 913] 100600 (next_r (adv s4 1)) rfl rfl rfl rfl rfl (by simp only [go_sem, hA]) (fun res L' h => ?_) (fun pv h => ?_)
   rotate_left
   ·unfold postNext at h
    rcases h3.cases with ⟨g1, g2⟩ | ⟨z, g1, g2, g3⟩
    ·rw [g1] at h
     cases h
     exact ⟨_, rfl, by rw [h3.pvR]; exact hno (by rw [hid, g2]; rfl)⟩
    ·rw [g1] at h; cases h
   unfold postNext at h
   rcases h3.cases with ⟨g1, g2⟩ | ⟨z, g1, g2, g3⟩
   ·rw [g1] at h; cases h
   rw [g1] at h
   cases h
   by_cases hz : z.text = [48]
   ·have d1 : decide ((⟨z.text.toArray⟩ : ByteArray) = ⟨#[48]⟩) = true := decide_eq_true (by rw [hz])
    simp only [go_sem, hA, encT, d1]
    refine goCallL [901] [910, 911, 912, 913] 100600 (fail_c (adv s4 1)) rfl rfl rfl rfl rfl (by simp only [go_sem, hA]) (fun _ _ h => by cases h) (fun pv h => ?_)
    cases h
    exact ⟨_, rfl, by rw [h3.pvR]; exact hno (by rw [hid, g2, pPos_zero hz])⟩
   ·have d1 : decide ((⟨z.text.toArray⟩ : ByteArray) = ⟨#[48]⟩) = false := decide_eq_false fun e => hz (bsL_inj (b := [48]) e)
    simp only [go_sem, hA, encT, d1]
    refine goCallL [901] [910, 911, 912, 913] 100600 (number_r mfK nvK hM hI (adv s4 1) h3.few') rfl rfl rfl rfl rfl (by simp only [go_sem, hA]) (fun res L' h => ?_) (fun pv h => ?_)
    rotate_left
    ·obtain ⟨r, e1, e2⟩ := (h3.num h).pan
     subst e2
     exact ⟨_, rfl, hno (by rw [hid, g2, pPos_num hz, ← g2]; exact e1)⟩
    obtain ⟨i, s5, e1, rfl, rfl, hS5⟩ := (h3.num h).ret
    simp only [go_sem, hA]
    exact ⟨i, s5, by rw [hid, g2, pPos_num hz, ← g2]; exact e1, hS5, rfl⟩
 rintro σ ⟨i, s5, hid, hS5, rfl⟩
 refine goC 100600 ?_
 simp only [go_sem, hA]
 refine goCallL [901] [910, 911, 912, 913] 100600 (expect_r s5 4 ⟨#[61]⟩ hS5.few') rfl rfl rfl rfl rfl (by simp only [go_sem, hA]) (fun res L' h => ?_) (fun pv h => ?_)
 rotate_left
 ·obtain ⟨r, e1, e2⟩ := (hS5.expect 4 [61] h).pan
  subst e2
  exact ⟨_, rfl, by unfold pBody; rw [hk, PR.bind_some, hns, PR.bind_some, hid, PR.bind_some, show eatT (sg [61]) (restK s5) = (none, r) from e1]; rfl⟩
 obtain ⟨u, s6, he6, rfl, rfl, hS6⟩ := (hS5.expect 4 [61] h).ret
 simp only [go_sem, hA]
 refine goCallL [901] [910, 911, 912, 913] 100600 (expr_r hN hM hI s6 t hS6) rfl rfl rfl rfl rfl (by simp only [go_sem, hA]) (fun res L' h => ?_) (fun pv h => ?_)
 rotate_left
 ·rw [fuel_expr hS6] at h
  obtain ⟨r, e1, e2⟩ := h.pan
  subst e2
  exact ⟨_, rfl, by unfold pBody; rw [hk, PR.bind_some, hns, PR.bind_some, hid, PR.bind_some, show eatT (sg [61]) (restK s5) = (some u, restK s6) from he6, PR.bind_some, e1]; rfl⟩
 rw [fuel_expr hS6] at h
 obtain ⟨e, s7, he7, rfl, rfl, hS7⟩ := h.ret
 simp only [go_sem, hA, avE_eq]
 refine goCallL [901] [910, 911, 912, 913] 100600 (expect_r s7 4 ⟨#[59]⟩ hS7.few') rfl rfl rfl rfl rfl (by simp only [go_sem, hA]) (fun res L' h => ?_) (fun pv h => ?_)
 rotate_left
 ·obtain ⟨r, e1, e2⟩ := (hS7.expect 4 [59] h).pan
  subst e2
  exact ⟨_, rfl, by unfold pBody; rw [hk, PR.bind_some, hns, PR.bind_some, hid, PR.bind_some, show eatT (sg [61]) (restK s5) = (some u, restK s6) from he6, PR.bind_some, he7, PR.bind_some, show eatT (sg [59]) (restK s7) = (none, r) from e1]; rfl⟩
 obtain ⟨u8, s8, he8, rfl, rfl, hS8⟩ := (hS7.expect 4 [59] h).ret
 simp only [go_sem, hA, Tryz.results62]
 refine ⟨_, rfl, rfl, ?_⟩
 unfold pBody
 rw [hk, PR.bind_some, hns, PR.bind_some, hid, PR.bind_some, show eatT (sg [61]) (restK s5) = (some u, restK s6) from he6, PR.bind_some, he7, PR.bind_some, show eatT (sg [59]) (restK s7) = (some u8, restK s8) from he8, PR.bind_some]
 exact ⟨s8, by unfold encDN; rw [hS3.pos]; rfl, hS8, rfl⟩
end
section
open Go Go.RowKit
variable {P : Program} {A : Base P} {σ : St} {g : Gh} {a : Act} {w : World}
theorem Ok.appendedW (hk : Ok A σ g a w) {r : Nat} {k : Tok} {rows rows2 : List (List D)} {v x : Value} {t ty : TypeId} {z : Value} (hr : σ.tok r = some k) (hex : k.ex = none) (hv : Has g σ.tk w (.grow r rows) v) (hlen : rows.length = k.len) (hx : Reads w g.F (.sl rows2) x)
  (ht : P.underlying t = some (.slice k.ty)) (hz : zeroOf P k.ty = some z) (hzs : z.cells.size = P.cellsOf k.ty) (h0 : P.cellsOf k.ty ≠ 0) (hst : P.cellsOf k.ty = k.st) (hby : P.bytesOf k.ty ≤ 1024) (hfit : rowsFit k.st rows2) (hfit0 : ∀ r ∈ rows, r.length = k.st) (hbd : rows.length + rows2.length ≤ 137438953472) :
  ∃ g' v' w', (Builtin.append_ #[t, t] ty #[v, x]).run P w = .ok v' w' ∧ Ok A (σ.setTok r (some { k with len := k.len + rows2.length })) g' a w' ∧ Has g' (σ.setTok r (some { k with len := k.len + rows2.length })).tk w' (.grow r (rows ++ rows2)) v' := by
 obtain ⟨hrd, htv⟩ := hv.grow_eq
 have hve : v = g.tv r := (htv k.len (by simp [St.tk, hr])).2 hlen
 obtain ⟨xs, hown⟩ := (hk.tok r k hr).own hex
 have htk : (σ.setTok r (some { k with len := k.len + rows2.length })).tk r = some (k.len + rows2.length) := by simp [St.tk, St.tok_setTok]
 by_cases hm : rows2 = []
 ·subst hm
  obtain ⟨q, c, hxe, _⟩ := hx.slice
  have hr0 := run_append_zero (P := P) (w := w) (t := t) (ty := ty) (v := v) (x := x) (n := k.len) ht h0 (by
   rw [hve]
   rcases hown.2 with h1 | ⟨b, cap, cur, h1, _, _, h2, _⟩
   ·exact .inl h1
   ·exact .inr ⟨b, cap, h1, h2⟩) ⟨q, c, hxe⟩
  have hg : w.grownBy w (g.tv r).ownBlock := ⟨rfl, rfl, rfl, Nat.le_refl _, fun _ _ _ => rfl⟩
  obtain ⟨h1, e1⟩ := hk.append (m := 0) (v' := g.tv r) (w' := w) (xs := xs) hr hex (by simpa using hown) hg (Below.refl _ _) (fun _ _ _ _ => rfl) (.inl rfl) (fun _ => rfl)
  refine ⟨_, v, w, hr0, h1, .grow r _ _ ?_ fun n' hn' => ?_⟩
  ·rw [List.append_nil]; exact hrd.mono e1.hF e1.hw
  ·simp only [List.append_nil, List.length_nil, Nat.add_zero] at hn' ⊢
   simp only [St.tk, St.tok_setTok, if_pos, Option.map_some, Option.some.injEq] at hn'
   subst hn'
   exact ⟨by omega, fun _ => by simp only [updN_same]; exact hve⟩
 ·obtain ⟨b, off, c, news, hxe, hnl, hnews, hone, hnr⟩ := hx.news (st := k.st) (fun q hq => (hfit q hq).1) (fun q hq => (hfit q hq).2) hm
  obtain ⟨i, hi, hzi⟩ : ∃ i, P.info? k.ty = some i ∧ i.zero = some z := by
   unfold zeroOf at hz
   cases hi : P.info? k.ty with
   | none => simp [hi] at hz
   | some i => exact ⟨i, rfl, by simpa [hi] using hz⟩
  have hsz : i.size = k.st := by rw [← hst]; simp [Program.cellsOf, hi]
  have hbi : i.bytes = P.bytesOf k.ty := by simp [Program.bytesOf, hi]
  have hbb : (k.len + rows2.length) * P.bytesOf k.ty ≤ 140737488355328 := by
   have h1 := Nat.mul_le_mul (show k.len + rows2.length ≤ 137438953472 by omega) hby
   omega
  obtain ⟨v', w', hr', hown', hg, _, hat⟩ := run_append_own_at (P := P) w A.B t ty k.ty i z k.st (P.bytesOf k.ty) ht hi hzi hsz hbi (by rw [hzs, hst]) (by omega) (g.tv r) k.len xs hown ⟨b, off, none⟩ rows2.length c news hnl hnews hone (by unfold maxLen; omega) hbb hk.hB
  have hbel : Below A.B w w' := ⟨hg.os, hg.tape, hg.output, hg.size, fun q hq => hg.block q (by have := hk.hB; omega) (fun e => by have := (hown.lt q e.symm).1; omega)⟩
  have hxs : xs.length = k.len * k.st := hown.1
  have hpos2 : 0 < rows2.length := by
   cases rows2 with
   | nil => exact absurd rfl hm
   | cons => simp
  -- either the same block, or a new one, and the elder block is asL it was
  have hat2 : v'.ownBlock = (g.tv r).ownBlock ∨ ∀ q, q < w.heap.size → w'.heap[q]? = w.heap[q]? := by
   rcases hown.2 with ⟨h1, h2⟩ | ⟨gb, cap, cur, h1, _, h3, h4, _⟩
   ·have hr2 := run_append_nil (P := P) (w := w) t ty k.ty i z ht hi hzi ⟨b, off, none⟩ rows2.length c news (by rw [hnl, hsz]) hnews hpos2 (by omega) (by rw [hbi]; have := Nat.mul_le_mul (show rows2.length ≤ 137438953472 by omega) hby; omega)
    rw [h1] at hr'
    rw [hr'] at hr2
    injection hr2 with _ hw2
    right
    intro q hq
    rw [hw2]
    exact Below.heap_alloc w.drew _ q hq
   ·by_cases hroom : k.len + rows2.length ≤ cap
    ·have hcs : k.len * i.size + news.length ≤ cur.size := by
      rename_i _ h6
      obtain ⟨_, h6, _⟩ := h6
      rw [hnl, hsz, h6, ← Nat.add_mul]
      exact Nat.mul_le_mul_right _ hroom
     have hr2 := run_append_room (P := P) w t ty k.ty i ht hi gb k.len cap cur h3 ⟨b, off, none⟩ rows2.length c news (by rw [hnl, hsz]) hnews hone hroom hcs
     rw [h1] at hr'
     rw [hr'] at hr2
     injection hr2 with hv2 _
     left
     rw [hv2, h1]; rfl
    ·have holds := hown.cells (g := gb) (by rw [h1]; rfl)
     have hr2 := run_append_grow (P := P) w t ty k.ty i z ht hi hzi ⟨gb, 0, none⟩ k.len cap xs (by rw [hown.1, hsz]) holds ⟨b, off, none⟩ rows2.length c news (by rw [hnl, hsz]) hnews (by omega) (by omega) (growslice_fits_wide (by omega) (by
      rw [hbi]
      have := Nat.mul_le_mul (show k.len + rows2.length + (k.len + rows2.length) / 4 + 192 ≤ 274877906944 by omega) hby
      omega))
     rw [h1] at hr'
     rw [hr'] at hr2
     injection hr2 with _ hw2
     right
     intro q hq
     rw [hw2]
     exact Below.heap_alloc w.drew _ q hq
  have hkeep : ∀ q o, (g.tv r).ownBlock = some q → o < k.len * k.st → w'.cell? ⟨q, o, none⟩ = w.cell? ⟨q, o, none⟩ := fun q o hq ho => by
   rcases hat2 with h2 | h2
   ·have h1 := hown.cells (g := q) hq o xs[o] (List.getElem?_eq_getElem (by omega))
    rw [Addr.add_lit, Nat.zero_add] at h1
    rw [h1]
    have h3 := hown'.cells (g := q) (h2.trans hq) o xs[o] (by rw [List.getElem?_append_left (by omega)]; exact List.getElem?_eq_getElem (by omega))
    rw [Addr.add_lit, Nat.zero_add] at h3
    exact h3
   ·exact cell_block (h2 q (hown.lt q hq).2)
  obtain ⟨h1, e1⟩ := hk.append (m := rows2.length) (v' := v') (w' := w') (xs := xs ++ news) hr hex hown' hg hbel hkeep hat (fun h => absurd (List.eq_nil_of_length_eq_zero h) hm)
  refine ⟨_, v', w', by rw [hve, hxe]; exact hr', h1, .grow r _ _ ?_ fun n' hn' => ?_⟩
  ·suffices key : ∀ G : Nat → Nat → Prop, (∀ b o, growF g.F v' ((k.len + rows2.length) * k.st) b o → G b o) → Reads w' G (.sl (rows ++ rows2)) v' from key _ (fun _ _ h => h)
   intro G hG
   rcases hown'.2 with ⟨_, h2⟩ | ⟨gb2, cap2, cur, hv2, _, _, hcap, _⟩
   ·omega
   ·have hll : (rows ++ rows2).length = k.len + rows2.length := by rw [List.length_append, hlen]
    rw [hv2, ← hll]
    have hcell' := hown'.cells (g := gb2) (by rw [hv2]; rfl)
    refine Reads.mk (st := k.st) (by omega) (fun i hi => ?_) fun i hi j hj => ?_
    ·rcases List.mem_append.1 (List.getElem_mem hi) with h3 | h3
     ·exact hfit0 _ h3
     ·exact (hfit _ h3).1
    ·have hF : growF g.F v' ((k.len + rows2.length) * k.st) gb2 (0 + i * k.st + j) := by
      right
      refine ⟨by rw [hv2]; rfl, ?_⟩
      have hjs : j < k.st := by
       rcases List.mem_append.1 (List.getElem_mem hi) with h3 | h3
       ·rw [hfit0 _ h3] at hj; exact hj
       ·rw [(hfit _ h3).1] at hj; exact hj
      have := Nat.mul_le_mul_right k.st (show i + 1 ≤ k.len + rows2.length by omega)
      rw [Nat.add_mul] at this; omega
     refine ⟨hG _ _ hF, ?_⟩
     by_cases hlt : i < rows.length
     ·have hrow : (rows ++ rows2)[i] = rows[i] := List.getElem_append_left hlt
      have hj1 : j < rows[i].length := by rw [← hrow]; exact hj
      have hel : (rows ++ rows2)[i][j] = rows[i][j] := by congr 1
      have hst1 : rows[i].length = k.st := hfit0 _ (List.getElem_mem hlt)
      obtain ⟨q, cc, hve2, _⟩ := hrd.slice
      have hrd2 := hrd
      rw [hve2] at hrd2
      obtain ⟨b1, off1, rfl, hc1⟩ := hrd2.row i hlt hst1
      obtain ⟨_, u, hu, hru⟩ := hc1 j hj1
      rcases hown.2 with ⟨h5, h6⟩ | ⟨gb, cap, cur1, h5, _⟩
      ·omega
      ·rw [← hve, hve2] at h5
       injection h5 with h7 _ _
       injection h7 with h8
       have hb1 : b1 = gb := congrArg Addr.block h8
       have ho1 : off1 = 0 := congrArg Addr.off h8
       subst hb1 ho1
       have hm1 : i * k.st + j < xs.length := by
        rw [hown.1]
        have := Nat.mul_le_mul_right k.st (show i + 1 ≤ k.len by omega)
        rw [Nat.add_mul] at this; omega
       have h9 := hown.cells (g := b1) (by rw [← hve, hve2]; rfl) (i * k.st + j) xs[i * k.st + j] (List.getElem?_eq_getElem hm1)
       rw [Addr.add_lit] at h9
       have hu' : xs[i * k.st + j] = u := by
        rw [Nat.add_assoc] at hu
        exact Option.some.inj (h9.symm.trans hu)
       have h10 := hcell' (i * k.st + j) u (by rw [List.getElem?_append_left hm1, List.getElem?_eq_getElem hm1, hu'])
       rw [Addr.add_lit] at h10
       rw [hel]
       exact ⟨u, by rw [Nat.add_assoc]; exact h10, hru.mono (fun b o hf => hG b o (e1.hF b o hf)) e1.hw⟩
     ·have hi2 : i - rows.length < rows2.length := by rw [List.length_append] at hi; omega
      have hrow : (rows ++ rows2)[i] = rows2[i - rows.length] := List.getElem_append_right (by omega)
      have hj1 : j < rows2[i - rows.length].length := by rw [← hrow]; exact hj
      have hel : (rows ++ rows2)[i][j] = rows2[i - rows.length][j] := by congr 1
      obtain ⟨u, hu, hru⟩ := hnr _ hi2 j hj1
      have hidx : i * k.st + j - xs.length = (i - rows.length) * k.st + j := by
       rw [hown.1, ← hlen, Nat.sub_mul]
       have := Nat.mul_le_mul_right k.st (show rows.length ≤ i by omega)
       omega
      have hge : xs.length ≤ i * k.st + j := by
       rw [hown.1, ← hlen]
       have := Nat.mul_le_mul_right k.st (show rows.length ≤ i by omega)
       omega
      have h10 := hcell' (i * k.st + j) u (by rw [List.getElem?_append_right hge, hidx]; exact hu)
      rw [Addr.add_lit] at h10
      rw [hel]
      exact ⟨u, by rw [Nat.add_assoc]; exact h10, hru.mono (fun b o hf => hG b o (e1.hF b o hf)) e1.hw⟩
  ·rw [htk] at hn'
   cases hn'
   exact ⟨by rw [List.length_append]; omega, fun _ => by simp only [updN_same]⟩
theorem opOk_appendW {o : Oper} {t : TypeId} {p q : Operand} {r : Nat} {rows rows2 : List (List D)} {k : Tok} {z : Value} (ho : o.op = .call { callee := .builtin .append, args := #[p, q], argTypes := #[t, t] }) (hp : σ.eval p = .grow r rows) (hq : (σ.eval q).rows = some rows2) (hr : σ.tok r = some k) (hex : k.ex = none)
  (ht : P.underlying t = some (.slice k.ty)) (hz : zeroOf P k.ty = some z) (hzs : z.cells.size = P.cellsOf k.ty) (h0 : P.cellsOf k.ty ≠ 0) (hst : P.cellsOf k.ty = k.st) (hby : P.bytesOf k.ty ≤ 1024) (hlen : rows.length = k.len) (hfit : rowsFit k.st rows2) (hfit0 : ∀ r ∈ rows, r.length = k.st) (hbd : rows.length + rows2.length ≤ 137438953472) :
  OpOk P A o σ (σ.setTok r (some { k with len := k.len + rows2.length })) (.grow r (rows ++ rows2)) := by
 refine opOk_run fun g a w hk => ?_
 have hpe := hk.eval p
 rw [hp] at hpe
 obtain ⟨g', v', w', h1, h2, h3⟩ := hk.appendedW (P := P) (t := t) (ty := o.type) hr hex hpe hlen ((hk.eval q).rows hq) ht hz hzs h0 hst hby hfit hfit0 hbd
 exact ⟨g', v', w', by simp only [execOp, ho, resolve, invoke, builtin, List.map_toArray, List.map_cons, List.map_nil, Sem.run_bind, Sem.run_pure, Result.andThen_ok, h1], h2, h3⟩
end
end Go.Proofs.YtnnolijagpakiaaGreatDoor
