/- Texts of this proof, part 13: what the proof uses of them. -/
import Derived.Test.YtnjedgpidalioaaGreatDoorQal
import Derived.Test.YtnjedgpidalioaaGreatDoorQak
namespace Go.Proofs.YtnjedgpidalioaaGreatDoor
section
open Go Go.RowKit
mutual
def anyE (p : Ex → Bool) : Ex → Bool
 | .mk k n m i d s => p (.mk k n m i d s) || anyL p s
def anyL (p : Ex → Bool) : List Ex → Bool
 | [] => false
 | e :: es => anyE p e || anyL p es
end
theorem anyE_eq (p : Ex → Bool) (t : Ex) : anyE p t = (p t || anyL p t.sub) := by cases t; rw [anyE]; rfl
theorem anyL_append (p : Ex → Bool) : ∀ a b : List Ex, anyL p (a ++ b) = (anyL p a || anyL p b)
 | [], b => by rw [anyL]; rfl
 | e :: a, b => by rw [List.cons_append, anyL, anyL, anyL_append p a b, Bool.or_assoc]
mutual
theorem closed_ment (r : Nat) : ∀ x : AV, x.closed = true → x.ment r = false
 | .d _, _ => rfl
 | .at_ _, _ => rfl
 | .agg cs, h => by rw [AV.ment]; exact closedL_ment r cs h
 | .tup cs, h => by rw [AV.ment]; exact closedL_ment r cs h
 | .fn _ cs, h => by rw [AV.ment]; exact closedL_ment r cs h
 | .mapd _ cs, h => by rw [AV.ment]; exact closedL_ment r cs h
theorem closedL_ment (r : Nat) : ∀ cs : List AV, closedL cs = true → mentL r cs = false
 | [], _ => rfl
 | x :: cs, h => by
  rw [closedL, Bool.and_eq_true] at h
  rw [mentL, closed_ment r x h.1, closedL_ment r cs h.2]; rfl
end
abbrev viSt (f : FuncId) (cs : List AV) (ver n : Nat) (rows : List (List D)) : St := ⟨[(1, .fn 135 [.box 1 0, .box 1000 0]), (4, .stk 99 6 ver 0 n), (1000005, .box 1000 0)], [(1, some (.cell 120 [.fn f cs])), (1000, some (.cell 4 [.d (.raw (.bool false))]))], [(99, some ⟨6, 98, ver, some rows⟩)]⟩
set_option maxRecDepth 100000 in
set_option maxHeartbeats 16000000 in
theorem bContains_c (e : Ex) (f : FuncId) (cs : List AV) (p : Ex → Bool) (hcs : closedL cs = true) (hcl : closeL cs = some cs) (hsz : nodesE e ≤ 1048576) (hp : ∀ x, nodesE x ≤ nodesE e → Con Tryz.prog f (avE x :: cs) (.d (.raw (.bool (p x))))) : Con Tryz.prog 84 [avE e, .fn f cs] (.d (.raw (.bool (anyE p e)))) := by
 refine con_of Tryz.func84 rfl (by decide +kernel) rfl (by simp only [go_sem, avE_eq, hcs]) (by simp [Tryz.ntmps84]) fun A hA => ?_
 rw [Tryz.ntmps84] at hA
 refine goC 400 ?_
 have hm := fun r => closedL_ment r cs hcs
 simp only [go_sem, hA, avE_eq, hm]
 refine goEnter 100000 400 rfl rfl rfl Tryz.func134 rfl (by decide +kernel) (by simp [Tryz.ntmps134]) (by simp [Tryz.ntmps134]) (by simp only [go_sem, hA]) fun B hB hBf => ?_
 rw [Tryz.ntmps134] at hB
 refine goC 14 ?_
 simp only [go_sem, hB, hm]
 refine goStk 99 400 (by simp only [go_sem]) rfl (by simp only [go_sem]; rfl) (by simp only [go_sem, hm]) (by simp only [go_sem, hB]) ?_
 simp only [go_sem, hB, hm]
 refine satC_loop [1, 4, 1000005] [1, 1000] [99] (fun y σ => ∃ (l : List Ex) (ver : Nat) (rows : List (List D)), rows.take l.length = encL l ∧ y = nodesL l ∧ nodesL l ≤ nodesE e ∧ anyE p e = anyL p l ∧ σ = viSt f cs ver l.length rows) (nodesE e) ⟨[e], 0, [encE e], rfl, by simp [nodesL], by simp [nodesL], by simp [anyL], by simp only [go_sem, encE_eq, viSt]⟩ ?_
 rintro y σ ⟨l, ver, rows, hrows, rfl, hn, hany, rfl⟩
 refine goC 400 ?_
 rcases List.eq_nil_or_concat l with rfl | ⟨l', x, rfl⟩
 ·have hr : anyE p e = false := hany
  simp only [go_sem, hA, hB, viSt, hr, Tryz.results134, Tryz.results84]
 ·rw [List.concat_eq_append] at *
  have hl : (l' ++ [x]).length = l'.length + 1 := by simp
  rw [hl] at hrows ⊢
  have hrl : l'.length < rows.length := by
   have := congrArg List.length hrows
   rw [encL_length, hl, List.length_take] at this
   omega
  have hrow : rows.getD l'.length [] = [.raw (.int .i64 x.kind), .raw (.string x.name), .raw (.string x.more), .raw (.int .i64 x.int), .raw (.int .i64 x.den), .sl (encL x.sub)] := by
   have h1 : (rows.take (l'.length + 1)).getD l'.length [] = rows.getD l'.length [] := by simp [List.getD_eq_getElem?_getD]
   rw [← h1, hrows, encL_at _ _ (by simp)]
   simp
  have k1 : decide ((0 : Int) < ((l'.length + 1 : Nat) : Int)) = true := decide_eq_true (by omega)
  have k2 : (((l'.length + 1 : Nat) : Int) - 1).toNat = l'.length := by omega
  have hll : l'.length + 1 ≤ 1048576 := by have := length_le_nodesL (l' ++ [x]); omega
  have hx : nodesE x ≤ nodesE e := by rw [nodesL_append, nodesL] at hn; omega
  simp only [go_sem, hB, viSt, k1, k2, Nat.zero_add, hrow, hm]
  refine ⟨by unfold inI64; omega, ⟨by omega, by omega⟩, by omega, by unfold inI64; omega, ⟨by omega, by omega⟩, ?_⟩
  refine goEnter 200000 400 (cs := [.box 1 0, .box 1000 0]) rfl rfl (by simp only [go_sem]) Tryz.func135 rfl (by decide +kernel) (by simp [Tryz.ntmps135]) (by simp [Tryz.ntmps135]) (by simp only [go_sem, hB]) fun C hC hCf => ?_
  rw [Tryz.ntmps135] at hC
  refine goC 400 ?_
  simp only [go_sem, hC, hm]
  refine goCallF 400 (cs := cs) (hp x hx) rfl rfl (by simp only [go_sem]) (by simp only [go_sem, hcl, avE_eq]) (by simp only [go_sem, hC]) ?_
  have hex : anyE p e = (p x || (anyL p l' || anyL p x.sub)) := by
   rw [hany, anyL_append, anyL, anyE_eq, anyL, Bool.or_false]
   cases anyL p l' <;> cases p x <;> rfl
  cases hpx : p x with
  | true =>
   have hr : anyE p e = true := by rw [hex, hpx]; rfl
   simp only [go_sem, hA, hB, hC, hm, hr, Tryz.results134, Tryz.results84, Tryz.results135]
  | false =>
   have h0 : rows.take l'.length = encL l' := by
    have := congrArg (List.take l'.length) hrows
    rwa [List.take_take, Nat.min_eq_left (by omega), ← encL_append, List.take_append_of_le_length (by rw [encL_length]; omega), List.take_of_length_le (l := encL l') (by rw [encL_length]; omega)] at this
   have h1 := length_le_nodesL x.sub
   have h2 : nodesE x = 1 + nodesL x.sub := by cases x; rw [nodesE]; simp only [Ex.sub]; omega
   have h3 : nodesL (l' ++ [x]) = nodesL l' + nodesE x := by rw [nodesL_append, nodesL, nodesL]; omega
   simp only [go_sem, hB, hC, hm, Nat.sub_zero, encL_length, Tryz.results134, Tryz.results84, Tryz.results135]
   refine ⟨⟨encL_fit x.sub, by omega, by omega⟩, nodesL (l' ++ x.sub), by rw [h3, nodesL_append]; omega, l' ++ x.sub, ver + 1, rows.take l'.length ++ encL x.sub, ?_, rfl, by rw [h3] at hn; rw [nodesL_append]; omega, ?_, by rw [List.length_append]⟩
   ·rw [h0, encL_append]; exact List.take_of_length_le (by rw [encL_length]; exact Nat.le_refl _)
   ·rw [hex, hpx, anyL_append]; rfl
end
section
open Go Go.RowKit
end
section
open Go Go.RowKit
end
section
open Go Go.RowKit Go.MapKept
def sortS (l : List ByteArray) : List ByteArray := ((l.map fun s => s.data.toList).mergeSort fun x y => decide (x ≤ y)).map fun x => ⟨x.toArray⟩
theorem sortS_length (l : List ByteArray) : (sortS l).length = l.length := by simp [sortS]
variable {A : Base Tryz.prog} {σ : St} {g : Gh} {a : Act} {w : World}
theorem goSort (t : Nat) (l : List ByteArray) {q : Nat} (n : Nat) {all : List Oper} {f : FuncId} {o : Oper} {rest : List Oper} {i base : Nat} {st : List Itm} {Q : Exit → St → Prop} {c : Call} {p m : Operand} (ho : o.op = .call c) (hp : c.callee = .value p) (hf : σ.eval p = .fn 137 []) (hargs : c.args.toList = [m]) (hm : σ.eval m = .grow q (encS l)) (hv : σ.get t = .grow q (encS l))
  (ht : σ.tok q = some ⟨1, 9, l.length, none⟩) (hlen : l.length < 4611686018427387904) (hd : dstOk A.N o = true) (_hdt : o.dst ≠ some t)
  (hr : go Tryz.prog A n (.ops all rest (i + 1) base) st (St.put ⟨[(t, .d (.sl (encS (sortS l))))], [], []⟩ o.dst (.tup [])) Q) : SemM Tryz.prog A (.exe (some f) all o rest i base) st σ Q := by
 intro g a w hk
 have hrun := run_call2 hk ho hp hf ⟨_, Tryz.func137, by decide +kernel, rfl⟩
 have hme := hk.eval m
 rw [hm] at hme
 have hte : Has g σ.tk w (σ.get t) (A.val a t) := hk.env t
 rw [hv] at hte
 have htk : σ.tk q = some l.length := by simp [St.tk, ht]
 obtain ⟨hrd, hv1⟩ := hme.grow_eq
 obtain ⟨_, hv2⟩ := hte.grow_eq
 have e1 : a.eval m = g.tv q := (hv1 _ htk).2 (encS_length l)
 have e2 : A.val a t = g.tv q := (hv2 _ htk).2 (encS_length l)
 obtain ⟨xs, hown⟩ := (hk.tok q _ ht).own rfl
 refine wpE_call hrun ?_
 rw [hargs]
 simp only [List.map_cons, List.map_nil, e1]
 rw [e1] at hrd
 have fin : ∀ (F' : Nat → Nat → Prop) (w' : World), Below A.B w w' → (∀ b o, A.F0 b o → F' b o) → (∀ b o, F' b o → A.F0 b o ∨ (A.B ≤ b ∧ b < w'.heap.size)) → Reads w' F' (.sl (encS (sortS l))) (g.tv q) → wpListIn A.fe 0 Tryz.prog all.toArray (postOf A (stk Tryz.prog A st Q)) rest (a.put o.dst (.tuple #[])) w' := fun F' w' hbel hF0 hFn hR => by
  have hs := hbel.size
  have hB := hk.hB
  have hk2 : Ok A ⟨[(t, .d (.sl (encS (sortS l))))], [], []⟩ ⟨g.m, g.tv, F'⟩ a w' := by
   refine ⟨hk.below.trans (.of hbel), by omega, hF0, fun b o hf => (hFn b o hf).imp id And.left, fun b o hf => ?_, hk.defers, hk.size, fun t' => ?_, fun r b h => by simp [St.blk, look] at h, fun r b h => by simp [St.blk, look] at h, fun r b r' b' h => by simp [St.blk, look] at h, fun r k h => by simp [St.tok, look] at h, fun r k x h => by simp [St.tok, look] at h, fun r k r' b x h => by simp [St.tok, look] at h, fun r k r' k' x h => by simp [St.tok, look] at h, hk.fix, fun r n0 _ n hn => by simp [St.tk, St.tok, look] at hn⟩
   ·rcases hFn b o hf with h | h
    ·have := hk.Fb b o (hk.F0 b o h); omega
    ·exact h.2
   ·unfold St.get
    simp only [look]
    by_cases e : t = t'
    ·subst e
     rw [if_pos rfl, e2]
     exact .d hR
    ·rw [if_neg e]; exact .dead _
  exact go_ok n _ _ _ _ hr _ _ _ (hk2.put o.dst (dstOk_spec hd) (.tup [] [] rfl fun i hi => by simp at hi))
 rcases hown.2 with ⟨h1, h0⟩ | ⟨gb, cap, cur, h1, hgB, hgh, hcap, _⟩
 ·have hl0 : l = [] := List.eq_nil_of_length_eq_zero h0
  subst hl0
  rw [h1]
  refine (Tryz.slices_Sort_string_none none 0 w).mono ?_
  rintro e w' ⟨rfl, rfl⟩
  exact fin A.F0 _ (Below.refl _ _) (fun _ _ h => h) (fun _ _ h => .inl h) (by rw [h1, show sortS [] = [] by simp [sortS]]; exact .nil _ _)
 ·rw [h1] at hrd ⊢
  have hstr : ∀ j (hj : j < l.length), w.cell? ⟨gb, 0 + j, none⟩ = some (.string l[j]) := fun j hj => by
   rcases reads_strs hrd with ⟨rfl, _⟩ | ⟨_, b, off, cap', hb, _, _, hc⟩
   ·simp at hj
   ·injection hb with hb _ _
    injection hb with hb
    have e3 : gb = b := congrArg Addr.block hb
    have e4 : 0 = off := congrArg Addr.off hb
    subst e3 e4
    rw [hc j hj]
    simp [List.getD_eq_getElem?_getD, hj]
  have hlt : gb < w.heap.size := (Array.getElem?_eq_some_iff.1 hgh).1
  have hH : Go.Sort.Holds encStr w gb 0 (l.map fun s => s.data.toList).toArray := fun j hj => by
   have hj' : j < l.length := by simpa using hj
   refine ⟨?_, Lib.frozen_of_heap hgh _⟩
   rw [hstr j hj', getElem!_pos _ j hj]
   simp [encStr]
  have hs := Tryz.slices_Sort_string gb 0 cap (l.map fun s => s.data.toList) w hH hlt (by simpa using hlen)
  rw [List.length_map] at hs
  refine hs.mono ?_
  rintro e w' ⟨rfl, k, os, rfl⟩
  have hsize : ∀ k, (Go.Sort.putRow encStr (Go.Sort.ahead w k) gb 0 ((l.map fun s => s.data.toList).mergeSort fun x y => decide (x ≤ y)).toArray).heap.size = w.heap.size := fun k => by simp
  refine fin (fun b o => A.F0 b o ∨ (b = gb ∧ o < l.length)) _ ⟨rfl, rfl, rfl, by simp, fun b hb => ?_⟩ (fun _ _ h => .inl h) (fun b o h => h.imp id fun h => ⟨by omega, by rw [h.1]; simp; omega⟩) ?_
  ·have hBs := hk.hB
   rw [Go.Sort.heap_grow_old _ _ (by rw [hsize]; omega)]
   simp only [Go.Sort.putRow, Go.Sort.mapBlock, Array.getElem?_modify]
   rw [if_neg (by omega)]
   rfl
  ·rw [h1]
   have hll : (encS (sortS l)).length = l.length := by rw [encS_length, sortS_length]
   rw [← hll]
   refine Reads.mk (st := 1) (by rw [hll]; exact hcap) (fun i hi => encS_row _ _ (List.getElem_mem hi)) fun i hi j hj => ?_
   have hil : i < (sortS l).length := by rw [encS_length] at hi; exact hi
   have hrow : (encS (sortS l))[i] = [.raw (.string (sortS l)[i])] := by simp [encS]
   have hj0 : j = 0 := by rw [hrow] at hj; simpa using hj
   subst hj0
   rw [sortS_length] at hil
   have hsi : i < ((l.map fun s => s.data.toList).mergeSort fun x y => decide (x ≤ y)).length := by simpa using hil
   refine ⟨.inr ⟨rfl, by omega⟩, .string (sortS l)[i], ?_, ?_⟩
   ·rw [Go.Sort.cell?_grow _ _ _ (by rw [hsize]; exact hlt), show 0 + i * 1 + 0 = 0 + i by omega, Go.Sort.cell?_putRow _ _ gb 0 _ _ (Go.Sort.holds_ahead _ w k gb 0 _ hH) (by simp) i (by simpa using hil), getElem!_pos _ i (by simpa using hsi)]
    simp [sortS, encStr]
   ·simp only [hrow, List.getElem_cons_zero]
    exact .raw _
end
section
open Go Go.RowKit
end
section
open Go Go.RowKit
def boundB (k : Int) (n m : ByteArray) (i : Nat) (bd : List ByteArray) : List ByteArray :=
 if k = 6 then bd ++ [n] else if k = 8 then (if i = 1 then bd ++ [n] else bd) else if k = 13 then (if i = 2 then bd ++ [n, m] else bd) else bd
end
section
open Go Go.RowKit
end
section
open Go Go.RowKit
theorem contains_c (l : List ByteArray) (s : ByteArray) (hl : l.length ≤ 1048576) : Con Tryz.prog 170 [.d (.sl (encS l)), .d (.raw (.string s))] (.d (.raw (.bool (hasS l s)))) := by
 refine ⟨⟨_, Tryz.func170, by decide +kernel, rfl⟩, rfl, fun F w vs hF _ hlen hv => ?_⟩
 match vs, hlen with
 | [v, v'], _ =>
  have h0 := hv 0 (by simp) (by simp)
  have h1 := hv 1 (by simp) (by simp)
  simp only [List.getElem_cons_zero, List.getElem_cons_succ] at h0 h1
  unfold HasC at h0 h1
  rw [h1.raw_eq]
  rcases reads_strs h0.sl with ⟨rfl, p, cap, rfl⟩ | ⟨hpos, b, off, cap, rfl, _, _, hc⟩
  ·refine (Tryz.slices_Contains_string_empty p cap s w).mono ?_
   rintro e w' ⟨rfl, rfl⟩
   exact ⟨_, rfl, .d (.raw _), Below.refl _ _⟩
  ·refine (Tryz.slices_Contains_string b off l.length cap l s w (Nat.le_refl _) (by omega) hc).mono ?_
   rintro e w' ⟨rfl, rfl⟩
   refine ⟨_, rfl, ?_, Below.refl _ _⟩
   have he : Lib.containsS (l.take l.length) s = hasS l s := by
    rw [List.take_length, Bool.eq_iff_iff, Lib.containsS_iff, hasS, List.any_eq_true]
    simp
   rw [he]
   exact .d (.raw _)
theorem clone_c (l : List ByteArray) (hl : l.length ≤ 1048576) : ConT Tryz.prog 171 [.d (.sl (encS l))] 1 9 (encS l) := by
 refine ⟨⟨_, Tryz.func171, by decide +kernel, rfl⟩, fun i h => encS_row l _ (List.getElem_mem h), fun F w vs hF _ hlen hv => ?_⟩
 match vs, hlen with
 | [v], _ =>
  have h0 := hv 0 (by simp) (by simp)
  simp only [List.getElem_cons_zero] at h0
  unfold HasC at h0
  rcases reads_strs h0.sl with ⟨rfl, p, cap, rfl⟩ | ⟨hpos, b, off, cap, rfl, _, _, hc⟩
  ·cases p with
   | none =>
    refine (Tryz.slices_Clone_string_nil 0 cap w).mono ?_
    rintro e w' ⟨rfl, rfl⟩
    exact ⟨_, [], rfl, World.ownsRow_nil _ _ _ _, fun i hi => by simp [encS] at hi, Below.refl _ _⟩
   | some a =>
    refine (Tryz.slices_Clone_string_zero a cap w).mono ?_
    rintro e w' ⟨v', rfl, ho, _, hb⟩
    exact ⟨_, [], rfl, ho, fun i hi => by simp [encS] at hi, hb⟩
  ·refine (Tryz.slices_Clone_string b off l.length cap l w (Nat.le_refl _) (by omega) hc).mono ?_
   rintro e w' ⟨v', rfl, ho, _, hb⟩
   refine ⟨v', _, rfl, by rw [encS_length]; exact ho, fun i hi j hj => ?_, hb⟩
   have hi' : i < l.length := by rw [encS_length] at hi; exact hi
   have hrow : (encS l)[i] = [.raw (.string l[i])] := by simp [encS]
   have hj0 : j = 0 := by
    rw [hrow] at hj
    simpa using hj
   subst hj0
   have e : (encS l)[i][0] = .raw (.string l[i]) := by simp only [hrow, List.getElem_cons_zero]
   rw [e]
   exact ⟨.string l[i], by simp [hi'], .raw _⟩
mutual
/-- the free names of an expression, in the order in which they are met -/
def addE : Ex → List ByteArray → List ByteArray → List ByteArray
 | .mk k n m _ _ s, bd, fs => if k = 3 then (if hasS bd n then fs else addS fs n) else addL k n m 0 s bd fs
def addL (k : Int) (n m : ByteArray) : Nat → List Ex → List ByteArray → List ByteArray → List ByteArray
 | _, [], _, fs => fs
 | i, e :: es, bd, fs => addL k n m (i + 1) es bd (addE e (boundB k n m i bd) fs)
end
mutual
/-- parts asL the kind has them -/
def shpE : Ex → Bool
 | .mk k _ _ _ _ s => (decide (k ≠ 6) || decide (s.length = 1)) && (decide (k ≠ 8) || decide (s.length = 2)) && (decide (k ≠ 13) || decide (s.length = 3)) && shpL s
def shpL : List Ex → Bool
 | [] => true
 | e :: es => shpE e && shpL es
end
theorem shpL_get : ∀ {l : List Ex} (i : Nat) (h : i < l.length), shpL l = true → shpE l[i] = true
 | e :: es, 0, _, h => by simp only [shpL, Bool.and_eq_true] at h; simpa using h.1
 | e :: es, i + 1, hi, h => by
  simp only [shpL, Bool.and_eq_true] at h
  simpa using shpL_get i (by simpa using hi) h.2
end
section
open Go Go.RowKit
def RI.strip (r : RI) : RI := ⟨r.x, match r.e with
 | .blk q (.map tag _ _) => .blk q (.map tag [] [])
 | e => e, r.vs⟩
def stripL (rs : List RI) : List RI :=
 match rs.getLast? with
 | some r => rs.dropLast ++ [r.strip]
 | none => rs
theorem chk_of {all : List Oper} {base : Nat} {rs rs' : List RI} (hl : rs.length = rs'.length) (he : ∀ (i : Nat) (r r' : RI), rs[i]? = some r → rs'[i]? = some r' → r.x = r'.x ∧ r.vs = r'.vs ∧ r.e.ref = r'.e.ref ∧ ∀ q, r.e.ment q = r'.e.ment q) (h : chk all base rs' = true) : chk all base rs = true := by
 obtain ⟨h1, h2⟩ := chk_spec h
 unfold chk
 simp only [Bool.and_eq_true]
 refine ⟨?_, ?_⟩
 ·rw [List.all_eq_true]
  intro x hx
  obtain ⟨k, hk⟩ := List.mem_iff_getElem?.1 hx
  rw [List.getElem?_zipIdx] at hk
  cases ha : all[k]? with
  | none => rw [ha] at hk; cases hk
  | some o =>
   rw [ha] at hk
   simp only [Option.map_some, Option.some.injEq, Nat.zero_add] at hk
   subst hk
   obtain ⟨hkl, hko⟩ := List.getElem?_eq_some_iff.1 ha
   rw [List.all_eq_true]
   intro d hd
   simp only [decide_eq_true_eq]
   exact h1 k hkl d (by rw [hko]; exact hd)
 ·have get : ∀ a ∈ (all.zip rs).zipIdx, ∃ k o r r', a = ((o, r), k) ∧ all[k]? = some o ∧ rs[k]? = some r ∧ rs'[k]? = some r' := fun a ha => by
   obtain ⟨k, hk⟩ := List.mem_iff_getElem?.1 ha
   rw [List.getElem?_zipIdx] at hk
   cases hz : (all.zip rs)[k]? with
   | none => rw [hz] at hk; cases hk
   | some p =>
    rw [hz] at hk
    simp only [Option.map_some, Option.some.injEq, Nat.zero_add] at hk
    obtain ⟨o, r⟩ := p
    obtain ⟨z1, z2⟩ := List.getElem?_zip_eq_some.1 hz
    have hlt := (List.getElem?_eq_some_iff.1 z2).1
    exact ⟨k, o, r, rs'[k]'(by omega), hk.symm, z1, z2, by simp [show k < rs'.length by omega]⟩
  rw [List.all_eq_true]
  intro a ha
  rw [List.all_eq_true]
  intro b hb
  obtain ⟨i, oi, ri, ri', rfl, a1, a2, a3⟩ := get a ha
  obtain ⟨j, oj, rj, rj', rfl, b1, b2, b3⟩ := get b hb
  have h3 := h2 i oi ri' j oj rj' a1 a3 b1 b3
  obtain ⟨e1, e2, e3, e4⟩ := he i ri ri' a2 a3
  obtain ⟨f1, f2, f3, f4⟩ := he j rj rj' b2 b3
  simp only [pairOk, touch, e3, f1, f2, f3, f4] at h3 ⊢
  exact h3
theorem chk_last {all : List Oper} {base : Nat} {rs : List RI} (hf : ∀ r : RI, rs.getLast? = some r → ∀ q, r.e.ment q = false) (h : chk all base (stripL rs) = true) : chk all base rs = true := by
 unfold stripL at h
 cases hg : rs.getLast? with
 | none => rw [hg] at h; exact h
 | some r0 =>
  rw [hg] at h
  simp only at h
  have hne : rs ≠ [] := fun e => by rw [e] at hg; cases hg
  have hdl : rs = rs.dropLast ++ [r0] := by
   have h1 := List.dropLast_concat_getLast hne
   rw [List.getLast?_eq_some_getLast hne] at hg
   rw [← Option.some.inj hg]
   exact h1.symm
  have hlen : rs.length = (rs.dropLast ++ [r0.strip]).length := by
   have := congrArg List.length hdl
   simpa using this
  refine chk_of hlen (fun i r r' h1 h2 => ?_) h
  rw [hdl] at h1
  by_cases hlt : i < rs.dropLast.length
  ·rw [List.getElem?_append_left hlt] at h1 h2
   rw [h1] at h2
   cases h2
   exact ⟨rfl, rfl, rfl, fun _ => rfl⟩
  ·rw [List.getElem?_append_right (by omega)] at h1 h2
   have hi0 : i - rs.dropLast.length = 0 := by
    have := (List.getElem?_eq_some_iff.1 h1).1
    simp only [List.length_cons, List.length_nil] at this
    omega
   rw [hi0] at h1 h2
   simp only [List.getElem?_cons_zero, Option.some.injEq] at h1 h2
   subst h1 h2
   have hm := hf r0 hg
   obtain ⟨x, e, vs⟩ := r0
   refine ⟨rfl, rfl, ?_, fun q => ?_⟩
   ·cases e with
    | none | tok => rfl
    | blk q b => cases b <;> rfl
   ·have := hm q
    cases e with
    | none | tok => rfl
    | blk q' b => cases b with
     | cell | row | iter | obj => rfl
     | map tag ks cs => rw [this]; rfl
abbrev afSt (k : Int) (n m : ByteArray) (i d : Int) (s : List Ex) (bd fs : List ByteArray) (b : Nat) (q : Nat) : St := ⟨[(1, .d (.sl (encS bd))), (2, .mp lentR), (3, .box 0 0), (86, .d (.sl (encL s))), (87, .d (.raw (.int .i64 s.length))), (88, .d (.raw (.int .i64 q)))], [(0, some (.cell 98 (cellsX k n m i d s))), (lentR, some (.map (some b) (keysS (addL k n m 0 (s.take q) bd fs)) (truesS (addL k n m 0 (s.take q) bd fs))))], []⟩
theorem addL_append (k : Int) (n m : ByteArray) : ∀ (i : Nat) (a b : List Ex) (bd l : List ByteArray), addL k n m i (a ++ b) bd l = addL k n m (i + a.length) b bd (addL k n m i a bd l)
 | i, [], b, bd, l => by simp [addL]
 | i, e :: es, b, bd, l => by
  simp only [List.cons_append, addL, addL_append k n m (i + 1) es b, List.length_cons]
  rw [show i + 1 + es.length = i + (es.length + 1) by omega]
theorem addL_take_succ (k : Int) (n m : ByteArray) (s : List Ex) (bd l : List ByteArray) (q : Nat) (h : q < s.length) : addL k n m 0 (s.take (q + 1)) bd l = addE s[q] (boundB k n m q bd) (addL k n m 0 (s.take q) bd l) := by
 rw [List.take_succ_eq_append_getElem h, addL_append]
 simp only [addL, List.length_take, Nat.zero_add]
 rw [Nat.min_eq_left (by omega)]
set_option maxRecDepth 100000 in
set_option maxHeartbeats 16000000 in
theorem addFree_step (N : Nat) (ih : ∀ (t : Ex) (bd fs : List ByteArray), nodesE t < N → 2 * nodesE t + bd.length ≤ 1048576 → shpE t = true → ConM Tryz.prog 136 [avE t, .d (.sl (encS bd))] (keysS fs) (truesS fs) (keysS (addE t bd fs)) (truesS (addE t bd fs)) (.tup []))
  (k : Int) (n m : ByteArray) (i d : Int) (s : List Ex) (bd fs : List ByteArray) (hN : nodesE (.mk k n m i d s) < N + 1) (hb : 2 * nodesE (.mk k n m i d s) + bd.length ≤ 1048576) (hs : shpE (.mk k n m i d s) = true) :
  ConM Tryz.prog 136 [avE (.mk k n m i d s), .d (.sl (encS bd))] (keysS fs) (truesS fs) (keysS (addE (.mk k n m i d s) bd fs)) (truesS (addE (.mk k n m i d s) bd fs)) (.tup []) := by
 rw [nodesE] at hN hb
 have hlen := length_le_nodesL s
 simp only [shpE, Bool.and_eq_true, Bool.or_eq_true, decide_eq_true_eq] at hs
 obtain ⟨⟨⟨hs6, hs8⟩, hs13⟩, hsL⟩ := hs
 have cC := contains_c bd n (by omega)
 have cK := clone_c bd (by omega)
 refine conM_of Tryz.func136 rfl (by decide +kernel) rfl (by simp only [AV.closed, closedL, avE, closedL_d, Bool.and_self]) (truesS_closed _) (truesS_closed _) (by simp [Tryz.ntmps136]) fun A hA b => ?_
 rw [Tryz.ntmps136] at hA
 refine goC 300 ?_
 by_cases h3 : k = 3
 ·subst h3
  simp only [go_sem, hA, avE, encE, lentR, mentL_rep]
  cases hh : hasS bd n with
  | true =>
   rw [hh] at cC
   have he : addE (.mk 3 n m i d s) bd fs = fs := by rw [addE, if_pos rfl, hh]; rfl
   refine goCall 300 cC rfl (by simp only [go_sem]) (by simp only [go_sem, hA]) ?_
   simp only [go_sem, hA, he, lentR, Tryz.results136]
  | false =>
   rw [hh] at cC
   have he : addE (.mk 3 n m i d s) bd fs = addS fs n := by rw [addE, if_pos rfl, hh]; rfl
   refine goCall 300 cC rfl (by simp only [go_sem]) (by simp only [go_sem, hA]) ?_
   simp only [go_sem, hA, he, lentR, Tryz.results136]
   exact ⟨keysS_fit fs, by rw [← putK_str, ← putC_str]; rfl⟩
 by_cases h6 : k = 6
 ·subst h6
  obtain ⟨e0, rfl⟩ : ∃ e0, s = [e0] := by
   rcases hs6 with h | h
   ·exact absurd rfl h
   ·match s, h with
    | [e0], _ => exact ⟨e0, rfl⟩
  simp only [shpL, Bool.and_true] at hsL
  simp only [nodesL] at hN hb
  have hc := ih e0 (bd ++ [n]) fs (by omega) (by simp; omega) hsL
  have he : addE (.mk 6 n m i d [e0]) bd fs = addE e0 (bd ++ [n]) fs := by rw [addE, if_neg (by decide)]; simp [addL, boundB]
  have hin : encS (bd ++ [n]) = encS bd ++ [[.raw (.string n)]] := by simp [encS]
  simp only [go_sem, hA, avE, encE, encL, encE_eq, lentR, Int.reduceEq, mentL_rep, mixed, List.getD_cons_zero]
  refine goCallDT 300 cK rfl rfl rfl (by simp only [go_sem]) (by simp only [go_sem, hA]) (by simp only [go_sem, mentL_rep]) ?_
  simp only [go_sem, hA, mentL_rep]
  refine ⟨⟨encS_fit [n], encS_row _, by rw [encS_length]; omega⟩, goCallDM 300 (args := [.tmp 25, .tmp 31]) (m := .tmp 32) hc rfl rfl rfl rfl rfl rfl (truesS_closed _) (by simp only [go_sem, avE_eq, hin]) (by simp only [go_sem, hA]) ?_⟩
  simp only [go_sem, he, lentR, Tryz.results136, and_true]
  exact chk_last (fun r h q => by rw [← Option.some.inj h]; exact mentL_rep q _) (by kernel_rfl)
 by_cases h8 : k = 8
 ·subst h8
  obtain ⟨e0, e1, rfl⟩ : ∃ e0 e1, s = [e0, e1] := by
   rcases hs8 with h | h
   ·exact absurd rfl h
   ·match s, h with
    | [e0, e1], _ => exact ⟨e0, e1, rfl⟩
  simp only [shpL, Bool.and_true, Bool.and_eq_true] at hsL
  simp only [nodesL] at hN hb
  have hc0 := ih e0 bd fs (by omega) (by omega) hsL.1
  have hc1 := ih e1 (bd ++ [n]) (addE e0 bd fs) (by omega) (by simp; omega) hsL.2
  have he : addE (.mk 8 n m i d [e0, e1]) bd fs = addE e1 (bd ++ [n]) (addE e0 bd fs) := by rw [addE, if_neg (by decide)]; simp [addL, boundB]
  have hin : encS (bd ++ [n]) = encS bd ++ [[.raw (.string n)]] := by simp [encS]
  simp only [go_sem, hA, avE, encE, encL, encE_eq, lentR, Int.reduceEq, mentL_rep, List.getD_cons_zero]
  refine goCallM 300 (args := [.tmp 39, .tmp 40]) (m := .tmp 41) hc0 rfl rfl rfl rfl rfl rfl (truesS_closed _) (by simp only [go_sem, avE_eq]) (by simp only [go_sem, hA]) ?_
  simp only [go_sem, hA, mentL_rep, mixed, List.getD_cons_zero, List.getD_cons_succ]
  refine goCallDT 300 cK rfl rfl rfl (by simp only [go_sem]) (by simp only [go_sem, hA]) (by simp only [go_sem, mentL_rep]) ?_
  simp only [go_sem, hA, mentL_rep]
  refine ⟨⟨encS_fit [n], encS_row _, by rw [encS_length]; omega⟩, goCallDM 300 (args := [.tmp 46, .tmp 52]) (m := .tmp 53) hc1 rfl rfl rfl rfl rfl rfl (truesS_closed _) (by simp only [go_sem, avE_eq, hin]) (by simp only [go_sem, hA]) ?_⟩
  simp only [go_sem, he, lentR, Tryz.results136, and_true]
  exact chk_last (fun r h q => by rw [← Option.some.inj h]; exact mentL_rep q _) (by kernel_rfl)
 by_cases h13 : k = 13
 ·subst h13
  obtain ⟨e0, e1, e2, rfl⟩ : ∃ e0 e1 e2, s = [e0, e1, e2] := by
   rcases hs13 with h | h
   ·exact absurd rfl h
   ·match s, h with
    | [e0, e1, e2], _ => exact ⟨e0, e1, e2, rfl⟩
  simp only [shpL, Bool.and_true, Bool.and_eq_true] at hsL
  simp only [nodesL] at hN hb
  have hc0 := ih e0 bd fs (by omega) (by omega) hsL.1
  have hc1 := ih e1 bd (addE e0 bd fs) (by omega) (by omega) hsL.2.1
  have hc2 := ih e2 (bd ++ [n, m]) (addE e1 bd (addE e0 bd fs)) (by omega) (by simp; omega) hsL.2.2
  have he : addE (.mk 13 n m i d [e0, e1, e2]) bd fs = addE e2 (bd ++ [n, m]) (addE e1 bd (addE e0 bd fs)) := by rw [addE, if_neg (by decide)]; simp [addL, boundB]
  have hin : encS (bd ++ [n, m]) = encS bd ++ [[.raw (.string n)], [.raw (.string m)]] := by simp [encS]
  simp only [go_sem, hA, avE, encE, encL, encE_eq, lentR, Int.reduceEq, mentL_rep, List.getD_cons_zero]
  refine goCallM 300 (args := [.tmp 60, .tmp 61]) (m := .tmp 62) hc0 rfl rfl rfl rfl rfl rfl (truesS_closed _) (by simp only [go_sem, avE_eq]) (by simp only [go_sem, hA]) ?_
  simp only [go_sem, hA, mentL_rep, List.getD_cons_zero, List.getD_cons_succ]
  refine goCallM 300 (args := [.tmp 67, .tmp 68]) (m := .tmp 69) hc1 rfl rfl rfl rfl rfl rfl (truesS_closed _) (by simp only [go_sem, avE_eq]) (by simp only [go_sem, hA]) ?_
  simp only [go_sem, hA, mentL_rep, mixed, List.getD_cons_zero, List.getD_cons_succ]
  refine goCallDT 300 cK rfl rfl rfl (by simp only [go_sem]) (by simp only [go_sem, hA]) (by simp only [go_sem, mentL_rep]) ?_
  simp only [go_sem, hA, mentL_rep]
  refine ⟨⟨encS_fit [n, m], encS_row _, by rw [encS_length]; omega⟩, goCallDM 300 (args := [.tmp 74, .tmp 82]) (m := .tmp 83) hc2 rfl rfl rfl rfl rfl rfl (truesS_closed _) (by simp only [go_sem, avE_eq, hin]) (by simp only [go_sem, hA]) ?_⟩
  simp only [go_sem, he, lentR, Tryz.results136, and_true]
  exact chk_last (fun r h q => by rw [← Option.some.inj h]; exact mentL_rep q _) (by kernel_rfl)
 have he : addE (.mk k n m i d s) bd fs = addL k n m 0 s bd fs := by rw [addE, if_neg h3]
 have g3 : decide (k = 3) = false := decide_eq_false h3
 have g6 : decide (k = 6) = false := decide_eq_false h6
 have g8 : decide (k = 8) = false := decide_eq_false h8
 have g13 : decide (k = 13) = false := decide_eq_false h13
 simp only [go_sem, hA, avE, encE, lentR, g3, g6, g8, g13, mentL_rep, encL_length]
 refine satC_loop [1, 2, 3, 86, 87, 88] [0, 7700077] [] (fun x σ => ∃ q : Nat, q ≤ s.length ∧ x = s.length - q ∧ σ = afSt k n m i d s bd fs b q) s.length ⟨0, by omega, by omega, by simp only [go_sem, afSt, lentR, List.take_zero, addL]⟩ ?_
 rintro x σ ⟨q, hq, rfl, rfl⟩
 refine goC 300 ?_
 by_cases hlt : q < s.length
 ·have g1 : decide ((q : Int) < (s.length : Int)) = true := decide_eq_true (by omega)
  have hn1 := nodesL_get s q hlt
  have hbd : boundB k n m q bd = bd := by simp [boundB, h6, h8, h13]
  have hc := ih s[q] bd (addL k n m 0 (s.take q) bd fs) (by omega) (by omega) (shpL_get q hlt hsL)
  have hts := addL_take_succ k n m s bd fs q hlt
  rw [hbd] at hts
  rw [← hts] at hc
  simp only [go_sem, hA, afSt, lentR, g1, Int.toNat_natCast, encL_length, encL_at s q hlt, mentL_rep]
  refine ⟨⟨by omega, by omega⟩, goCallM 300 (args := [.tmp 92, .tmp 93]) (m := .tmp 94) hc rfl rfl rfl rfl rfl rfl (truesS_closed _) (by simp only [go_sem, avE_eq]) (by simp only [go_sem, hA]) ?_⟩
  simp only [go_sem, hA]
  exact ⟨by unfold inI64; omega, s.length - (q + 1), by omega, q + 1, by omega, rfl, rfl⟩
 ·have g1 : decide ((q : Int) < (s.length : Int)) = false := decide_eq_false (by omega)
  obtain rfl : q = s.length := by omega
  simp only [go_sem, hA, afSt, lentR, g1, he, List.take_length, Tryz.results136]
theorem addFree_c (N : Nat) : ∀ (t : Ex) (bd fs : List ByteArray), nodesE t < N → 2 * nodesE t + bd.length ≤ 1048576 → shpE t = true → ConM Tryz.prog 136 [avE t, .d (.sl (encS bd))] (keysS fs) (truesS fs) (keysS (addE t bd fs)) (truesS (addE t bd fs)) (.tup []) := by
 induction N with
 | zero => intro t bd fs h; omega
 | succ N ih => intro t bd fs h hb hs; cases t; exact addFree_step N ih _ _ _ _ _ _ bd fs h hb hs
end
section
open Go Go.RowKit
def sfreeX (t : Ex) : List ByteArray := if checkX t = 0 then sortS (addE t [] []) else []
mutual
theorem addE_length : ∀ (t : Ex) (bd fs : List ByteArray), (addE t bd fs).length ≤ fs.length + nodesE t
 | .mk k n m i d s, bd, fs => by
  rw [addE, nodesE]
  have h := addL_length k n m 0 s bd fs
  split
  ·split
   ·omega
   ·unfold addS
    split
    ·omega
    ·simp
  ·omega
theorem addL_length (k : Int) (n m : ByteArray) : ∀ (i : Nat) (s : List Ex) (bd fs : List ByteArray), (addL k n m i s bd fs).length ≤ fs.length + nodesL s
 | i, [], bd, fs => by simp [addL]
 | i, e :: es, bd, fs => by
  rw [addL, nodesL]
  have h1 := addE_length e (boundB k n m i bd) fs
  have h2 := addL_length k n m (i + 1) es bd (addE e (boundB k n m i bd) fs)
  omega
end
def metS (fs : List ByteArray) (seen : List Nat) : List ByteArray := seen.map fun j => atB fs j
theorem sortS_perm {a b : List ByteArray} (h : a.Perm b) : sortS a = sortS b := by
 unfold sortS
 congr 1
 have hp : ((a.map fun s => s.data.toList).mergeSort fun x y => decide (x ≤ y)).Perm ((b.map fun s => s.data.toList).mergeSort fun x y => decide (x ≤ y)) :=
  (List.mergeSort_perm _ _).trans ((h.map _).trans (List.mergeSort_perm _ _).symm)
 have hs : ∀ l : List (List UInt8), (l.mergeSort fun x y => decide (x ≤ y)).Pairwise fun x y => decide (x ≤ y) = true := fun l =>
  List.pairwise_mergeSort (fun a b c h1 h2 => by
   simp only [decide_eq_true_eq] at h1 h2 ⊢
   exact List.le_trans h1 h2) (fun a b => by
   simp only [Bool.or_eq_true, decide_eq_true_eq]
   exact List.le_total a b) l
 refine List.Perm.eq_of_pairwise (fun x y _ _ h1 h2 => ?_) (hs _) (hs _) hp
 simp only [decide_eq_true_eq] at h1 h2
 exact List.le_antisymm h1 h2
theorem metS_all {fs : List ByteArray} {seen : List Nat} (hn : seen.Nodup) (hl : ∀ j ∈ seen, j < fs.length) (ha : ∀ j, j < fs.length → j ∈ seen) : (metS fs seen).Perm fs := by
 have hp : seen.Perm (List.range fs.length) := (List.perm_ext_iff_of_nodup hn List.nodup_range).2 fun j => by
  rw [List.mem_range]
  exact ⟨hl j, ha j⟩
 have h1 : ((List.range fs.length).map fun j => atB fs j) = fs := by
  apply List.ext_getElem
  ·simp
  ·intro i h1 h2
   simp [atB, h2]
 have h2 := hp.map fun j => atB fs j
 rw [h1] at h2
 exact h2
abbrev frlSt (fs : List ByteArray) (seen : List Nat) : St := ⟨[(3, .mp 3000), (4, .grow 5002 (encS (metS fs seen))), (17, .box 6001 0)], [(3000, some (.map none (keysS fs) (truesS fs))), (6001, some (.iter 3000 (keysS fs).length seen))], [(5002, some ⟨1, 9, (metS fs seen).length, none⟩)]⟩
set_option maxRecDepth 100000 in
set_option maxHeartbeats 8000000 in
theorem sFree_c (t : Ex) (hb : nodesE t ≤ 524288) (hok : checkX t = 0 → shpE t = true) : Con Tryz.prog 86 [avE t] (.d (.sl (encS (sfreeX t)))) := by
 have cc := sCheckExpr_c t (by omega)
 refine con_of Tryz.func86 rfl (by decide +kernel) rfl (by simp only [AV.closed, closedL, avE, closedL_d, Bool.and_self]) (by simp [Tryz.ntmps86]) fun A hA => ?_
 rw [Tryz.ntmps86] at hA
 refine goC 300 ?_
 simp only [go_sem, hA, avE_eq]
 refine goCall 300 cc rfl (by simp only [go_sem, avE_eq]) (by simp only [go_sem, hA]) ?_
 by_cases h : checkX t = 0
 ·have g0 : (decide ¬ checkX t = 0) = false := by simpa using h
  have hx : sfreeX t = sortS (addE t [] []) := if_pos h
  have ca := addFree_c (nodesE t + 1) t [] [] (by omega) (by simp; omega) (hok h)
  simp only [go_sem, hA, g0]
  refine goCallM 8 (args := [.tmp 10, .const (.slice none 0 0)]) (m := .tmp 11) ca rfl rfl rfl rfl rfl rfl (truesS_closed _) (by simp only [go_sem, avE_eq]; rfl) (by simp only [go_sem, hA]) ?_
  simp only [go_sem, hA]
  obtain ⟨fs, hfs⟩ : ∃ fs, addE t [] [] = fs := ⟨_, rfl⟩
  have hfl : fs.length ≤ 524288 := by rw [← hfs]; have := addE_length t [] []; simp at this; omega
  rw [hfs] at hx ⊢
  have hkl : (keysS fs).length = fs.length := by simp [keysS]
  refine goStep 0 (by simp only [go_sem]) (opOk_lenMap (kt := 9) (et := 4) rfl (by kernel_rfl) rfl rfl) (by simp only [go_sem, hA]) ?_
  show SemM _ _ _ _ _ _
  simp only [go_sem, hkl]
  have hby16 : Tryz.prog.bytesOf 9 = 16 := by kernel_rfl
  refine goStep 300 (by simp only [go_sem]) (opOk_makeCap (n := fs.length) (z := .string ⟨#[]⟩) (e := 9) (by rfl) (by kernel_rfl) (by kernel_rfl) (by kernel_rfl) (by rfl) (by rfl) (by rw [hby16]; omega) (by unfold maxLen; omega) (St.free_of (r := 5002) (by simp only [go_sem, mentL_rep]))) (by simp only [go_sem, hA]) ?_
  simp only [go_sem, hA, mentL_rep]
  refine satC_loop [3, 4, 17] [3000, 6001] [5002] (fun y σ => ∃ seen : List Nat, seen.Nodup ∧ (∀ j ∈ seen, j < fs.length) ∧ y = fs.length - seen.length ∧ σ = frlSt fs seen) fs.length ⟨[], List.nodup_nil, (fun j hj => by cases hj), rfl, by simp only [go_sem, frlSt]; rfl⟩ ?_
  rintro y σ ⟨seen, hnd, hlt, rfl, rfl⟩
  have hsl : seen.length ≤ fs.length := by
   have := List.Nodup.length_le_of_subset hnd (l₂ := List.range fs.length) (fun j hj => List.mem_range.2 (hlt j hj))
   simpa using this
  have hml : (metS fs seen).length = seen.length := by simp [metS]
  refine goC 300 ?_
  simp only [go_sem, frlSt]
  refine goNext 6 rfl rfl rfl rfl rfl (by simp only [go_sem, hA]) (fun hall => ?_) (fun j hj hj' hns => ?_)
  ·simp only [go_sem, hA]
   refine goC 300 ?_
   simp only [go_sem, hA]
   refine goSort 4 (metS fs seen) 300 rfl rfl rfl rfl rfl rfl rfl (by omega) (by simp only [go_sem, hA]) (by decide) ?_
   rw [hx, ← sortS_perm (metS_all hnd hlt fun j hj => hall j (by rw [hkl]; exact hj))]
   simp only [go_sem, hA, Tryz.results86]
  ·simp only [go_sem, hA]
   refine goC 8 ?_
   simp only [go_sem]
   refine goStep 300 (by simp only [go_sem]) (opOk_entry (j := j) (q := 6001) (r := 3000) (by rfl) (by rfl) (by rfl) (by rfl) (by rfl) hj hj') (by simp only [go_sem, hA]) ?_
   have hjl : j < fs.length := by rw [hkl] at hj; exact hj
   have hkj : (keysS fs)[j] = .string fs[j] := by simp [keysS]
   have htj : (truesS fs)[j] = .d (.raw (.bool true)) := by simp [truesS]
   rw [hkj, htj]
   simp only [go_sem, hA, encS_length, mentL_rep]
   have hmet : metS fs (seen ++ [j]) = metS fs seen ++ [fs[j]] := by simp [metS, atB, hjl]
   have hnd2 : (seen ++ [j]).Nodup := List.nodup_append.2 ⟨hnd, by simp, fun a ha b hb => by
    have : b = j := by simpa using hb
    subst this
    intro e; subst e; exact hns ha⟩
   have hlt2 : ∀ i ∈ seen ++ [j], i < fs.length := fun i hi => by
    rcases List.mem_append.1 hi with h | h
    ·exact hlt i h
    ·have : i = j := by simpa using h
     omega
   have hsl2 : (seen ++ [j]).length ≤ fs.length := by
    have := List.Nodup.length_le_of_subset hnd2 (l₂ := List.range fs.length) (fun j hj => List.mem_range.2 (hlt2 j hj))
    simpa using this
   have hsl3 : (seen ++ [j]).length = seen.length + 1 := by simp
   refine ⟨⟨encS_fit [fs[j]], encS_row _, by omega⟩, fs.length - (seen ++ [j]).length, by omega, seen ++ [j], hnd2, hlt2, rfl, ?_⟩
   rw [hmet, List.length_append, ← encS_append]
   rfl
 ·have g0 : (decide ¬ checkX t = 0) = true := by simpa using h
  have hx : sfreeX t = [] := if_neg h
  simp only [go_sem, hA, g0, hx, Tryz.results86]
  rfl
end
section
open Go Go.RowKit
mutual
theorem checkE_shp : ∀ t : Ex, checkE t = 0 → shpE t = true
 | .mk k n m i d s, h => by
  obtain ⟨h1, h2⟩ := checkE_mk h
  obtain ⟨e6, e8, e13, _⟩ := checkN_len h1
  simp only [shpE, Bool.and_eq_true, Bool.or_eq_true, decide_eq_true_eq]
  exact ⟨⟨⟨(Decidable.em (k = 6)).elim (fun e => .inr (e6 e)) .inl, (Decidable.em (k = 8)).elim (fun e => .inr (e8 e)) .inl⟩, (Decidable.em (k = 13)).elim (fun e => .inr (e13 e)) .inl⟩, checkEs_shp s h2⟩
theorem checkEs_shp : ∀ l : List Ex, checkEs l = 0 → shpL l = true
 | [], _ => rfl
 | e :: es, h => by
  obtain ⟨h1, h2⟩ := checkE_cons h
  simp only [shpL, Bool.and_eq_true]
  exact ⟨checkE_shp e h1, checkEs_shp es h2⟩
end
theorem checkX_shp {t : Ex} (h : checkX t = 0) : shpE t = true := checkE_shp t (checkX_E h).1
theorem bytesLess_iff : ∀ a b : List UInt8, Op.bytesLess a b = true ↔ a < b
 | [], [] => by simp [Op.bytesLess]
 | x :: a, [] => by simp [Op.bytesLess]
 | [], y :: b => by simp [Op.bytesLess]
 | x :: a, y :: b => by
  rw [Op.bytesLess, Bool.or_eq_true, Bool.and_eq_true, List.cons_lt_cons_iff, bytesLess_iff a b]
  simp
def ltL (a b : ByteArray) : Prop := a.data.toList < b.data.toList
theorem ltL_trans {a b c : ByteArray} (h1 : ltL a b) (h2 : ltL b c) : ltL a c := List.lt_trans h1 h2
theorem ltL_irrefl (a : ByteArray) : ¬ ltL a a := List.lt_irrefl _
theorem ltL_or {a b : ByteArray} (h : ¬ ltL a b) (hne : a ≠ b) : ltL b a := by
 have h1 : b.data.toList ≤ a.data.toList := List.not_lt.1 h
 rcases List.le_iff_lt_or_eq.1 h1 with h2 | h2
 ·exact h2
 ·exact absurd (ba_inj h2).symm hne
end
section
open Go Go.RowKit
set_option maxRecDepth 100000 in
set_option maxHeartbeats 8000000 in
theorem bNames_c (l : List ByteArray) : Con Tryz.prog 82 [.d (.sl (encS l))] (.d (.raw (.int .i64 (namesX l)))) := by
 refine con_of Tryz.func82 rfl (by decide +kernel) rfl rfl (by simp [Tryz.ntmps82]) fun A hA => ?_
 rw [Tryz.ntmps82] at hA
 refine goC 400 ?_
 by_cases h5 : ¬ l.length = 1 ∧ ¬ l.length = 3
 ·have g5 : (decide ¬ (l.length : Int) = 1) = true := decide_eq_true (by omega)
  have g6 : (decide ¬ (l.length : Int) = 3) = true := decide_eq_true (by omega)
  have he : namesX l = 1 := by unfold namesX; rw [if_pos h5]
  simp only [go_sem, hA, g5, g6, encS_length, he, Tryz.results82]
 have h6 : l.length = 1 ∨ (¬ l.length = 1 ∧ l.length = 3) := by omega
 have he : namesX l = if l.any (badName l) then 6 else 0 := by unfold namesX; rw [if_neg h5]
 rcases h6 with h6 | ⟨h6, h7⟩
 case' inl =>
  have g5 : (decide ¬ (l.length : Int) = 1) = false := decide_eq_false (by omega)
  have g7 : decide ((l.length : Int) = 1) = true := decide_eq_true (by omega)
  simp only [go_sem, hA, g5, undef, encS_length]
 case' inr =>
  have g5 : (decide ¬ (l.length : Int) = 1) = true := decide_eq_true (by omega)
  have g6 : (decide ¬ (l.length : Int) = 3) = false := decide_eq_false (by omega)
  have g7 : decide ((l.length : Int) = 1) = false := decide_eq_false (by omega)
  simp only [go_sem, hA, g5, g6, encS_length]
 all_goals
  refine satC_loop [0, 13, 14, 15] [] [] (fun y σ => ∃ q : Nat, q ≤ l.length ∧ y = l.length - q ∧ (l.take q).any (badName l) = false ∧ σ = dnSt l q) l.length ⟨0, by omega, by omega, rfl, by simp only [go_sem, dnSt]⟩ ?_
  rintro y σ ⟨q, hq, rfl, hf, rfl⟩
  refine goC 400 ?_
  by_cases hlt : q < l.length
  ·have k1 : decide ((q : Int) < (l.length : Int)) = true := decide_eq_true (by omega)
   have hc := bName_c l[q]
   simp only [go_sem, hA, dnSt, encS_length, k1, Int.toNat_natCast, encS_at l q hlt]
   refine ⟨⟨by omega, by omega⟩, ?_⟩
   have hbad : badName l l[q] = true → namesX l = 6 := fun h => by
    rw [he, if_pos]
    rw [List.any_eq_true]
    exact ⟨_, List.getElem_mem hlt, h⟩
   have hgood : badName l l[q] = false → (l.take (q + 1)).any (badName l) = false := fun h => by
    rw [List.take_succ_eq_append_getElem hlt, List.any_append, hf]
    simp [h]
   have g7' : decide (l.length = 1) = decide ((l.length : Int) = 1) := decide_eq_decide.2 (by omega)
   obtain ⟨one, g8⟩ : ∃ one, decide ((l.length : Int) = 1) = one := ⟨_, rfl⟩
   rw [g8] at g7'
   cases hn : nameB l[q] with
   | true =>
    rw [hn] at hc
    have hb := hgood (by unfold badName; rw [hn]; rfl)
    refine goCall 300 hc rfl (by simp only [go_sem]) (by simp only [go_sem, hA]) ?_
    simp only [go_sem, hA, undef]
    exact ⟨by unfold inI64; omega, l.length - (q + 1), by omega, q + 1, by omega, rfl, hb, rfl⟩
   | false =>
    rw [hn] at hc
    refine goCall 300 hc rfl (by simp only [go_sem]) (by simp only [go_sem, hA]) ?_
    cases one with
    | true =>
     have hb := hbad (by unfold badName; rw [hn, g7']; rfl)
     simp only [go_sem, hA, encS_length, g8, hb, undef, Tryz.results82]
    | false =>
     by_cases hz : l[q] = ⟨#[]⟩
     ·have hb := hgood (by unfold badName; rw [hn, g7', hz]; rfl)
      have k2 : decide (¬ l[q] = ⟨#[]⟩) = false := decide_eq_false (fun h => h hz)
      simp only [go_sem, hA, encS_length, g8, k2]
      exact ⟨by unfold inI64; omega, l.length - (q + 1), by omega, q + 1, by omega, rfl, hb, rfl⟩
     ·have hb := hbad (by unfold badName; rw [hn, g7']; simp [hz])
      have k2 : decide (¬ l[q] = ⟨#[]⟩) = true := decide_eq_true hz
      simp only [go_sem, hA, encS_length, g8, k2, hb, Tryz.results82]
  ·have k1 : decide ((q : Int) < (l.length : Int)) = false := decide_eq_false (by omega)
   obtain rfl : q = l.length := by omega
   rw [List.take_length] at hf
   rw [hf] at he
   simp only [go_sem, hA, dnSt, k1, he, Tryz.results82]
set_option maxRecDepth 100000 in
theorem isDot_c (x : Ex) : Con Tryz.prog 85 [avE x] (.d (.raw (.bool (decide (x.kind = 4))))) := by
 refine con_of Tryz.func85 rfl (by decide +kernel) rfl (by simp only [go_sem, avE_eq]) (by simp [Tryz.ntmps85]) fun A hA => ?_
 rw [Tryz.ntmps85] at hA
 refine goC 400 ?_
 simp only [go_sem, hA, avE_eq, Tryz.results85]
def ownRef (label : ByteArray) (x : Ex) : Bool := decide (x.kind = 5) && decide (x.name = label)
set_option maxRecDepth 100000 in
theorem ownRef_c (label : ByteArray) (x : Ex) : Con Tryz.prog 87 [avE x, .at_ [.raw (.string label)]] (.d (.raw (.bool (ownRef label x)))) := by
 refine con_of Tryz.func87 rfl (by decide +kernel) rfl (by simp only [go_sem, avE_eq]) (by simp [Tryz.ntmps87]) fun A hA => ?_
 rw [Tryz.ntmps87] at hA
 refine goC 400 ?_
 unfold ownRef
 cases h : decide (x.kind = 5) <;> simp only [go_sem, hA, avE_eq, h, undef, Bool.false_and, Tryz.results87]
def bdeclX (label : ByteArray) (d : Dc) : Int :=
 if d.id < 1 ∨ 999999 < d.id then 2 else if ¬ d.kind = 1 ∧ ¬ d.kind = 2 ∧ ¬ d.kind = 3 then 9 else if ¬ namesX d.names = 0 then namesX d.names else if ¬ checkX d.body = 0 then checkX d.body
 else if anyE (fun x => decide (x.kind = 4)) d.body then 9 else if 0 < (sfreeX d.body).length then 21 else if anyE (ownRef label) d.body then 1 else 0
set_option maxRecDepth 100000 in
set_option maxHeartbeats 16000000 in
theorem bdecl_c (label : ByteArray) (d : Dc) (hb : nodesE d.body ≤ 524288) (hok : checkX d.body = 0 → shpE d.body = true) : Con Tryz.prog 49 [.d (.raw (.string label)), avD d] (.d (.raw (.int .i64 (bdeclX label d)))) := by
 refine con_of Tryz.func49 rfl (by decide +kernel) rfl rfl (by simp [Tryz.ntmps49]) fun A hA => ?_
 rw [Tryz.ntmps49] at hA
 refine goC 400 ?_
 by_cases h1 : d.id < 1
 ·have g1 : decide (d.id < 1) = true := decide_eq_true h1
  have hr : bdeclX label d = 2 := if_pos (.inl h1)
  simp only [go_sem, hA, avD, g1, hr, undef, Tryz.results49]
 have g1 : decide (d.id < 1) = false := decide_eq_false h1
 by_cases h2 : 999999 < d.id
 ·have g2 : decide (999999 < d.id) = true := decide_eq_true h2
  have hr : bdeclX label d = 2 := if_pos (.inr h2)
  simp only [go_sem, hA, avD, g1, g2, hr, Tryz.results49]
 have g2 : decide (999999 < d.id) = false := decide_eq_false h2
 have hr0 : bdeclX label d = if ¬ d.kind = 1 ∧ ¬ d.kind = 2 ∧ ¬ d.kind = 3 then 9 else if ¬ namesX d.names = 0 then namesX d.names else if ¬ checkX d.body = 0 then checkX d.body
   else if anyE (fun x => decide (x.kind = 4)) d.body then 9 else if 0 < (sfreeX d.body).length then 21 else if anyE (ownRef label) d.body then 1 else 0 := if_neg (by omega)
 by_cases hk : ¬ d.kind = 1 ∧ ¬ d.kind = 2 ∧ ¬ d.kind = 3
 ·rw [if_pos hk] at hr0
  simp only [go_sem, hA, avD, g1, g2, hk.1, hk.2.1, hk.2.2, hr0, Tryz.results49]
 rw [if_neg hk] at hr0
 have hk3 : d.kind = 1 ∨ (¬ d.kind = 1 ∧ d.kind = 2) ∨ (¬ d.kind = 1 ∧ ¬ d.kind = 2 ∧ d.kind = 3) := by omega
 rcases hk3 with hk | ⟨hk, hk'⟩ | ⟨hk, hk', hk''⟩
 case' inl => simp only [go_sem, hA, avD, g1, g2, hk, undef]
 case' inr.inl => simp only [go_sem, hA, avD, g1, g2, hk', undef, Int.reduceEq]
 case' inr.inr => simp only [go_sem, hA, avD, g1, g2, hk'', Int.reduceEq]
 all_goals
  refine goCall 400 (bNames_c d.names) rfl (by simp only [go_sem]) (by simp only [go_sem, hA]) ?_
  by_cases hn : namesX d.names = 0
  case neg =>
   have g3 : (decide ¬ namesX d.names = 0) = true := decide_eq_true hn
   rw [if_pos hn] at hr0
   simp only [go_sem, hA, g3, hr0, Tryz.results49]
  have g3 : (decide ¬ namesX d.names = 0) = false := by simp [hn]
  rw [if_neg (by simp [hn])] at hr0
  simp only [go_sem, hA, g3]
  refine goCall 400 (sCheckExpr_c d.body (by omega)) rfl (by simp only [go_sem, avE_eq]) (by simp only [go_sem, hA]) ?_
  by_cases hx : checkX d.body = 0
  case neg =>
   have g4 : (decide ¬ checkX d.body = 0) = true := decide_eq_true hx
   rw [if_pos hx] at hr0
   simp only [go_sem, hA, g4, hr0, Tryz.results49]
  have g4 : (decide ¬ checkX d.body = 0) = false := by simp [hx]
  rw [if_neg (by simp [hx])] at hr0
  simp only [go_sem, hA, g4]
  refine goCall 400 (bContains_c d.body 85 [] (fun x => decide (x.kind = 4)) rfl rfl (by omega) fun x _ => isDot_c x) rfl (by simp only [go_sem, avE_eq]) (by simp only [go_sem, hA]) ?_
  cases hd : anyE (fun x => decide (x.kind = 4)) d.body with
  | true =>
   rw [if_pos hd] at hr0
   simp only [go_sem, hA, hr0, Tryz.results49]
  | false =>
  rw [if_neg (by simp [hd])] at hr0
  simp only [go_sem, hA]
  refine goCall 400 (sFree_c d.body hb hok) rfl (by simp only [go_sem, avE_eq]) (by simp only [go_sem, hA]) ?_
  by_cases hf : 0 < (sfreeX d.body).length
  ·have g5 : decide ((0 : Int) < ((sfreeX d.body).length : Int)) = true := decide_eq_true (by omega)
   rw [if_pos hf] at hr0
   simp only [go_sem, hA, encS_length, g5, hr0, Tryz.results49]
  have g5 : decide ((0 : Int) < ((sfreeX d.body).length : Int)) = false := decide_eq_false (by omega)
  rw [if_neg hf] at hr0
  simp only [go_sem, hA, encS_length, g5]
  refine goFrz 0 ?_
  simp only [go_sem]
  refine goCall 400 (bContains_c d.body 87 [.at_ [.raw (.string label)]] (ownRef label) rfl rfl (by omega) fun x _ => ownRef_c label x) rfl (by simp only [go_sem, avE_eq]) (by simp only [go_sem, hA]) ?_
  cases hd2 : anyE (ownRef label) d.body with
  | true =>
   rw [if_pos hd2] at hr0
   simp only [go_sem, hA, hr0, Tryz.results49]
  | false =>
   rw [if_neg (by simp [hd2])] at hr0
   simp only [go_sem, hA, hr0, Tryz.results49]
end
section
open Go Go.RowKit
structure Mo where
 label : ByteArray
 uses : List ByteArray
 decls : List Dc
def encM (x : Mo) : List D := [.raw (.string x.label), .sl (encS x.uses), .sl (encDs x.decls)]
def avM (x : Mo) : AV := .agg [.d (.raw (.string x.label)), .d (.sl (encS x.uses)), .d (.sl (encDs x.decls))]
def bdE (label : ByteArray) (l : List Dc) (q : Nat) : Int :=
 if ¬ bdeclX label (atD l q) = 0 then bdeclX label (atD l q) else if 0 < q ∧ (atD l q).id ≤ (atD l (q - 1)).id then 10 else 0
def bindX (x : Mo) : Int :=
 if labelL x.label.data.toList then
  (if ¬ srcX sdeclX ⟨x.uses, []⟩ = 0 then srcX sdeclX ⟨x.uses, []⟩ else if ¬ firstN (useA x.label x.uses) x.uses.length = 0 then firstN (useA x.label x.uses) x.uses.length
   else if 100 < x.decls.length then 4 else firstN (bdE x.label x.decls) x.decls.length) else 6
abbrev bk1St (x : Mo) (q : Nat) : St := ⟨[(1, .box 0 0), (22, .d (.raw (.int .i64 x.uses.length))), (23, .d (.raw (.int .i64 q)))], [(0, some (.cell 53 [.d (.raw (.string x.label)), .d (.sl (encS x.uses)), .d (.sl (encDs x.decls))]))], []⟩
abbrev bk2St (x : Mo) (q : Nat) : St := ⟨[(1, .box 0 0), (41, .d (.sl (encDs x.decls))), (42, .d (.raw (.int .i64 x.decls.length))), (43, .d (.raw (.int .i64 q)))], [(0, some (.cell 53 [.d (.raw (.string x.label)), .d (.sl (encS x.uses)), .d (.sl (encDs x.decls))]))], []⟩
theorem srcX_usesLen {u : List ByteArray} (h : srcX sdeclX ⟨u, []⟩ = 0) : u.length ≤ 20 := by
 unfold srcX at h
 split at h
 ·cases h
 ·simp only at *; omega
set_option maxRecDepth 100000 in
set_option maxHeartbeats 16000000 in
theorem bind_c (x : Mo) (hb : ∀ d ∈ x.decls, nodesE d.body ≤ 524288) : Con Tryz.prog 21 [avM x] (.d (.raw (.int .i64 (bindX x)))) := by
 refine con_of Tryz.func21 rfl (by decide +kernel) rfl rfl (by simp [Tryz.ntmps21]) fun A hA => ?_
 rw [Tryz.ntmps21] at hA
 refine goC 400 ?_
 simp only [go_sem, hA, avM]
 refine goCall 400 (sLabel_c x.label) rfl (by simp only [go_sem]) (by simp only [go_sem, hA]) ?_
 cases hl : labelL x.label.data.toList with
 | false =>
  have hr : bindX x = 6 := by unfold bindX; rw [hl]; rfl
  simp only [go_sem, hA, hr, Tryz.results21]
 | true =>
 have hr0 : bindX x = if ¬ srcX sdeclX ⟨x.uses, []⟩ = 0 then srcX sdeclX ⟨x.uses, []⟩ else if ¬ firstN (useA x.label x.uses) x.uses.length = 0 then firstN (useA x.label x.uses) x.uses.length
   else if 100 < x.decls.length then 4 else firstN (bdE x.label x.decls) x.decls.length := by unfold bindX; rw [hl]; rfl
 simp only [go_sem, hA]
 refine goCall 400 (ssource_c ⟨x.uses, []⟩ (fun d h => by cases h)) rfl (by simp only [go_sem, avS]; rfl) (by simp only [go_sem, hA]) ?_
 by_cases hs : srcX sdeclX ⟨x.uses, []⟩ = 0
 case neg =>
  have g4 : (decide ¬ srcX sdeclX ⟨x.uses, []⟩ = 0) = true := decide_eq_true hs
  rw [if_pos hs] at hr0
  simp only [go_sem, hA, g4, hr0, Tryz.results21]
 have g4 : (decide ¬ srcX sdeclX ⟨x.uses, []⟩ = 0) = false := by simp [hs]
 have hul := srcX_usesLen hs
 rw [if_neg (by simp [hs])] at hr0
 simp only [go_sem, hA, g4, encS_length]
 refine satC_loop [1, 22, 23] [0] [] (fun y σ => ∃ q : Nat, q ≤ x.uses.length ∧ y = x.uses.length - q ∧ firstN (useA x.label x.uses) q = 0 ∧ σ = bk1St x q) x.uses.length ⟨0, by omega, by omega, rfl, by simp only [go_sem, bk1St]⟩ ?_
 rintro y σ ⟨q, hq, rfl, hf, rfl⟩
 refine goC 400 ?_
 by_cases hlt : q < x.uses.length
 ·have k1 : decide ((q : Int) < (x.uses.length : Int)) = true := decide_eq_true (by omega)
  simp only [go_sem, hA, bk1St, k1]
  refine goCall 400 (checkUse_c x.label x.uses q hlt (by omega)) rfl (by simp only [go_sem]) (by simp only [go_sem, hA]) ?_
  by_cases hu : useA x.label x.uses q = 0
  ·have g5 : (decide ¬ useA x.label x.uses q = 0) = false := by simp [hu]
   simp only [go_sem, hA, g5]
   exact ⟨by unfold inI64; omega, x.uses.length - (q + 1), by omega, q + 1, by omega, rfl, firstN_step hf hu, rfl⟩
  ·have g5 : (decide ¬ useA x.label x.uses q = 0) = true := decide_eq_true hu
   have hn : firstN (useA x.label x.uses) x.uses.length = useA x.label x.uses q := firstN_hit hf hlt hu
   rw [hn, if_pos hu] at hr0
   simp only [go_sem, hA, g5, hr0, Tryz.results21]
 have k1 : decide ((q : Int) < (x.uses.length : Int)) = false := decide_eq_false (by omega)
 obtain rfl : q = x.uses.length := by omega
 rw [if_neg (by simp [hf])] at hr0
 by_cases h2 : 100 < x.decls.length
 ·have g2 : decide ((100 : Int) < (x.decls.length : Int)) = true := decide_eq_true (by omega)
  rw [if_pos h2] at hr0
  simp only [go_sem, hA, bk1St, encDs_length, k1, g2, hr0, Tryz.results21]
 have g2 : decide ((100 : Int) < (x.decls.length : Int)) = false := decide_eq_false (by omega)
 rw [if_neg h2] at hr0
 simp only [go_sem, hA, bk1St, encDs_length, k1, g2]
 refine satC_loop [1, 41, 42, 43] [0] [] (fun y σ => ∃ q : Nat, q ≤ x.decls.length ∧ y = x.decls.length - q ∧ firstN (bdE x.label x.decls) q = 0 ∧ σ = bk2St x q) x.decls.length ⟨0, by omega, by omega, rfl, by simp only [go_sem, bk2St]⟩ ?_
 rintro y σ ⟨q, hq, rfl, hf2, rfl⟩
 refine goC 400 ?_
 by_cases hlt : q < x.decls.length
 case neg =>
  have k1 : decide ((q : Int) < (x.decls.length : Int)) = false := decide_eq_false (by omega)
  obtain rfl : q = x.decls.length := by omega
  rw [hf2] at hr0
  simp only [go_sem, hA, bk2St, k1, hr0, Tryz.results21]
 have k1 : decide ((q : Int) < (x.decls.length : Int)) = true := decide_eq_true (by omega)
 have hat := atD_get x.decls q hlt
 obtain ⟨d, hd⟩ : ∃ d, x.decls[q] = d := ⟨_, rfl⟩
 rw [hd] at hat
 have hc := bdecl_c x.label d (hb d (by rw [← hd]; exact List.getElem_mem hlt)) checkX_shp
 simp only [go_sem, hA, bk2St, encDs_length, k1, Int.toNat_natCast, encDs_at x.decls q hlt, hd, encD]
 refine ⟨⟨by omega, by omega⟩, ?_⟩
 refine goCall 400 hc rfl (by simp only [go_sem, avD]) (by simp only [go_sem, hA]) ?_
 have hbe : bdE x.label x.decls q = if ¬ bdeclX x.label d = 0 then bdeclX x.label d else if 0 < q ∧ d.id ≤ (atD x.decls (q - 1)).id then 10 else 0 := by unfold bdE; rw [hat]
 by_cases he : bdeclX x.label d = 0
 case neg =>
  have g5 : (decide ¬ bdeclX x.label d = 0) = true := decide_eq_true he
  rw [if_pos he] at hbe
  rw [firstN_hit hf2 hlt (by rw [hbe]; exact he), hbe] at hr0
  simp only [go_sem, hA, g5, hr0, Tryz.results21]
 have g5 : (decide ¬ bdeclX x.label d = 0) = false := by simp [he]
 rw [if_neg (by simp [he])] at hbe
 by_cases hq0 : 0 < q
 ·have k2 : decide ((0 : Int) < (q : Int)) = true := decide_eq_true (by omega)
  have hq1 : ((q : Int) - 1).toNat = q - 1 := by omega
  have hat1 := atD_get x.decls (q - 1) (by omega)
  have hin : inI64 ((q : Int) - 1) := by unfold inI64; omega
  rw [hat1] at hbe
  by_cases hi : d.id ≤ x.decls[q - 1].id
  ·have k3 : decide (d.id ≤ x.decls[q - 1].id) = true := decide_eq_true hi
   rw [if_pos ⟨hq0, hi⟩] at hbe
   rw [firstN_hit hf2 hlt (by rw [hbe]; decide), hbe] at hr0
   simp only [go_sem, hA, g5, k2, encDs_length, hq1, encDs_at x.decls (q - 1) (by omega), encD, k3, hr0, mixed, Tryz.results21]
   exact ⟨hin, ⟨by omega, by omega⟩, by show chk _ _ _ = true; kernel_rfl⟩
  ·have k3 : decide (d.id ≤ x.decls[q - 1].id) = false := decide_eq_false hi
   rw [if_neg fun h => hi h.2] at hbe
   simp only [go_sem, hA, g5, k2, encDs_length, hq1, encDs_at x.decls (q - 1) (by omega), encD, k3, mixed]
   exact ⟨hin, ⟨by omega, by omega⟩, by show chk _ _ _ = true; kernel_rfl, by unfold inI64; omega, x.decls.length - (q + 1), by omega, q + 1, by omega, rfl, firstN_step hf2 hbe, rfl⟩
 ·have k2 : decide ((0 : Int) < (q : Int)) = false := decide_eq_false (by omega)
  rw [if_neg fun h => hq0 h.1] at hbe
  simp only [go_sem, hA, g5, k2, undef, mixed]
  exact ⟨by show chk _ _ _ = true; kernel_rfl, by unfold inI64; omega, x.decls.length - (q + 1), by omega, q + 1, by omega, rfl, firstN_step hf2 hbe, rfl⟩
end
end Go.Proofs.YtnjedgpidalioaaGreatDoor
