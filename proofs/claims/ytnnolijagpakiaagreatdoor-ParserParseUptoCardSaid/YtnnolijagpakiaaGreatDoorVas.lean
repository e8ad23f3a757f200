/- Texts of this proof, part 19: what the proof uses of them. -/
import Derived.Test.YtnnolijagpakiaaGreatDoorVar
import Derived.Test.YtnnolijagpakiaaGreatDoorVag
import Derived.Deep.LoopGhost
import Derived.OwnWalkIn
import Derived.LoopIn
import Derived.Lib.Hide
namespace Go.Proofs.YtnnolijagpakiaaGreatDoor
section
open Go Go.RowKit
abbrev avT (x : LTok) : AV := .agg [.d (.raw (.int .i64 x.kind)), .d (.raw (.string ⟨x.text.toArray⟩)), .d (.raw (.int .i64 x.pos))]
def postName (nf : LTok → Bool) (s : RS) (o : Out) : Prop := match s.toks[s.at_]? with
 | some x => if nf x = true then o = .ret (.d (.raw (.string ⟨x.text.toArray⟩))) (rdL { s with at_ := s.at_ + 1 }) else o = .pan (pvR s)
 | none => o = .pan (pvR s)
set_option maxRecDepth 100000 in
set_option maxHeartbeats 4000000 in
theorem name_r (nf : LTok → Bool) (hN : ∀ x : LTok, Con Tryz.prog 135 [avT x] (.d (.raw (.bool (nf x))))) (s : RS) (hs : s.toks.length ≤ 1048576) : ConL Tryz.prog 78 [.box 901 0] (rdL s) (postName nf s) := by
 refine conL_of [901] [910, 911, 912, 913] Tryz.func78 rfl (by decide +kernel) (by simp [Tryz.ntmps78]) fun A hA => ?_
 rw [Tryz.ntmps78] at hA
 refine goC 300 ?_
 simp only [go_sem, hA]
 refine goCallL [901] [910, 911, 912, 913] 300 (next_r s) rfl rfl rfl rfl rfl (by simp only [go_sem, hA]) (fun res L' h => ?_) (fun pv h => ?_)
 ·cases hp : s.toks[s.at_]? with
  | none => unfold postNext at h; rw [hp] at h; cases h
  | some x =>
   have hl := (List.getElem?_eq_some_iff.1 hp).1
   unfold postNext at h
   rw [hp] at h
   cases h
   simp only [go_sem, hA, encT]
   refine goCall 300 (hN x) rfl (by simp only [go_sem]) (by simp only [go_sem, hA]) ?_
   cases hi : nf x with
   | true =>
    simp only [go_sem, hA, Tryz.results78]
    exact ⟨by unfold inI64; omega, _, rfl, rfl, by unfold postName; rw [hp]; simp only [hi, if_true]; rfl⟩
   | false =>
    simp only [go_sem, hA]
    refine goCallL [901] [910, 911, 912, 913] 300 (fail_c s) rfl rfl rfl rfl rfl (by simp only [go_sem, hA]) (fun _ _ h => by cases h) (fun pv h => ?_)
    cases h
    exact ⟨_, rfl, by unfold postName; rw [hp]; exact (if_neg (by rw [hi]; decide)).mpr rfl⟩
 ·cases hp : s.toks[s.at_]? with
  | none =>
   unfold postNext at h
   rw [hp] at h
   cases h
   exact ⟨_, rfl, by unfold postName; rw [hp]⟩
  | some x => unfold postNext at h; rw [hp] at h; cases h
def postNum (nf : LTok → Bool) (nv : LTok → Int) (s : RS) (o : Out) : Prop := match s.toks[s.at_]? with
 | some x => if nf x = true then o = .ret (.d (.raw (.int .i64 (nv x)))) (rdL { s with at_ := s.at_ + 1 }) else o = .pan (pvR s)
 | none => o = .pan (pvR s)
set_option maxRecDepth 100000 in
set_option maxHeartbeats 4000000 in
theorem number_r (nf : LTok → Bool) (nv : LTok → Int) (hN : ∀ x : LTok, Con Tryz.prog 136 [avT x] (.d (.raw (.bool (nf x))))) (hI : ∀ x : LTok, nf x = true → Con Tryz.prog 137 [.d (.raw (.string ⟨x.text.toArray⟩))] (.tup [.d (.raw (.int .i64 (nv x))), .d (.raw .nilIface)])) (s : RS) (hs : s.toks.length ≤ 1048576) : ConL Tryz.prog 79 [.box 901 0] (rdL s) (postNum nf nv s) := by
 refine conL_of [901] [910, 911, 912, 913] Tryz.func79 rfl (by decide +kernel) (by simp [Tryz.ntmps79]) fun A hA => ?_
 rw [Tryz.ntmps79] at hA
 refine goC 300 ?_
 simp only [go_sem, hA]
 refine goCallL [901] [910, 911, 912, 913] 300 (next_r s) rfl rfl rfl rfl rfl (by simp only [go_sem, hA]) (fun res L' h => ?_) (fun pv h => ?_)
 ·cases hp : s.toks[s.at_]? with
  | none => unfold postNext at h; rw [hp] at h; cases h
  | some x =>
   have hl := (List.getElem?_eq_some_iff.1 hp).1
   unfold postNext at h
   rw [hp] at h
   cases h
   simp only [go_sem, hA, encT]
   refine goCall 300 (hN x) rfl (by simp only [go_sem]) (by simp only [go_sem, hA]) ?_
   cases hi : nf x with
   | true =>
    simp only [go_sem, hA]
    refine ⟨by unfold inI64; omega, ?_⟩
    refine goCall 300 (hI x hi) rfl (by simp only [go_sem]) (by simp only [go_sem, hA]) ?_
    simp only [go_sem, hA, Tryz.results79]
    trace_state
    exact ⟨_, rfl, rfl, by unfold postNum; rw [hp]; simp only [hi, if_true]; rfl⟩
   | false =>
    simp only [go_sem, hA]
    refine goCallL [901] [910, 911, 912, 913] 300 (fail_c s) rfl rfl rfl rfl rfl (by simp only [go_sem, hA]) (fun _ _ h => by cases h) (fun pv h => ?_)
    cases h
    exact ⟨_, rfl, by unfold postNum; rw [hp]; exact (if_neg (by rw [hi]; decide)).mpr rfl⟩
 ·cases hp : s.toks[s.at_]? with
  | none =>
   unfold postNext at h
   rw [hp] at h
   cases h
   exact ⟨_, rfl, by unfold postNum; rw [hp]⟩
  | some x => unfold postNext at h; rw [hp] at h; cases h
end
section
open Go Go.RowKit
abbrev onlyD (k : Int) : List D := [.raw (.int .i64 k), .raw (.string ⟨#[]⟩), .raw (.int .i64 0), .raw (.string ⟨#[]⟩), .raw (.string ⟨#[]⟩), .raw (.int .i64 0), .raw (.int .i64 0), .sl [], .raw (.int .i64 0), .raw (.int .i64 0), .raw (.int .i64 0)]
theorem only_c (k : Int) : Con Tryz.prog 76 [.d (.raw (.int .i64 k))] (.agg ((onlyD k).map .d)) := by
 refine con_of Tryz.func76 rfl (by decide +kernel) rfl rfl (by simp [Tryz.ntmps76]) fun A hA => ?_
 rw [Tryz.ntmps76] at hA
 refine goC 300 ?_
 simp only [go_sem, hA, Tryz.results76]
end
section
open Go Go.RowKit
attribute [local go_sem] Oper.semAt_some
theorem list11 {α : Type} : ∀ {l : List α}, l.length = 11 → ∃ x0 x1 x2 x3 x4 x5 x6 x7 x8 x9 x10, l = [x0, x1, x2, x3, x4, x5, x6, x7, x8, x9, x10]
 | [_x0, _x1, _x2, _x3, _x4, _x5, _x6, _x7, _x8, _x9, _x10], _ => ⟨_, _, _, _, _, _, _, _, _, _, _, rfl⟩
structure PartsAt (W : World) (b1 o1 : Nat) (vs : List (List Value)) : Prop where
 len : ∀ x ∈ vs, x.length = 11
 pos : 0 < vs.length
 at_ : ∃ b off cap, W.cell? ⟨b1, o1, none⟩ = some (.slice (some ⟨b, off, none⟩) vs.length cap) ∧ vs.length ≤ cap ∧
  ∀ i (h : i < vs.length) j (hj : j < vs[i].length), W.cell? ⟨b, off + i * 11 + j, none⟩ = some vs[i][j]
set_option maxRecDepth 100000 in
set_option maxHeartbeats 4000000 in
theorem back_in (n l b1 o1 : Nat) (hn1 : 1 ≤ n) (vs : List (List Value)) (hbig : vs.length ≤ 1048576) (J : Nat → World → Prop) (hJ : ∀ k W, J k W → PartsAt W b1 o1 vs)
  (hY : ∀ k W (h : k < vs.length), J (vs.length - 1 - k) W → YieldAt Fence.wide (n - 1) Tryz.prog l #[.int .i64 k, .agg vs[k].toArray] W fun e B => e = .returned (.bool true) ∧ J (vs.length - k) B) (W : World) (h0 : J 0 W) :
  CallsIn Fence.wide n Tryz.prog 170 #[.func (.yield l) #[] #[], .pointer (some ⟨b1, o1, none⟩)] W fun e B => (∃ v, e = .returned v) ∧ J vs.length B := by
 have hp0 := hJ _ _ h0
 obtain ⟨b, off, cap, c1, hcap, hcells⟩ := hp0.at_
 refine callsIn_of_wp Tryz.func170 rfl trivial ?_ rfl
 simp only [Tryz.ntmps170, List.size_toArray, List.length_cons, List.length_nil, Nat.reduceAdd, Nat.reduceSub, Array.replicate_succ, Array.replicate_zero, List.push_toArray, List.append_toArray, List.nil_append, List.cons_append]
 gi_wp2_with fail
 gi_loopw [3] (fun v wr => ∃ k : Nat, k ≤ vs.length ∧ v = .int .i64 ((k : Int) - 1) ∧ J (vs.length - k) wr) (fun v _ => (intOf v + 1).toNat)
 case atStart => exact ⟨vs.length, Nat.le_refl _, rfl, by rw [Nat.sub_self]; exact h0⟩
 case round =>
  obtain ⟨k, hk, rfl, hJk⟩ := hrel
  clear c1 hcells
  cases k with
  | zero =>
   have hJ0 := Lib.hid hJk
   clear hJk
   simp only [Int.natCast_zero, Int.zero_sub, Int.reduceNeg]
   gi_wp2_with fail
   go_end0
   exact ⟨⟨_, rfl⟩, by simpa using hJ0.out⟩
  | succ k =>
   have hz : ((k + 1 : Nat) : Int) - 1 = (k : Int) := by omega
   rw [hz]
   obtain ⟨b, off, cap, c1, hcap, hcells⟩ := (hJ _ _ hJk).at_
   have hlen := (hJ _ _ hJk).len
   obtain ⟨fn, tmps, assign, body, hy, hR⟩ := hY k wr (by omega) (by rw [show vs.length - 1 - k = vs.length - (k + 1) by omega]; exact hJk)
   have h11 : vs[k].length = 11 := hlen _ (List.getElem_mem _)
   have HJ := Lib.hid hJk
   clear hJk
   have hd : ∀ j (hj : j < 11), wr.cell? ⟨b, off + k * 11 + j, none⟩ = some (vs[k][j]'(by omega)) := fun j hj => hcells k (by omega) j (by omega)
   obtain ⟨x0, x1, x2, x3, x4, x5, x6, x7, x8, x9, x10, hx⟩ := list11 h11
   have hd' : ∀ j (hj : j < 11), wr.cell? ⟨b, off + k * 11 + j, none⟩ = some ([x0, x1, x2, x3, x4, x5, x6, x7, x8, x9, x10][j]'(by simpa using hj)) := fun j hj => by
    rw [hd j hj]; congr 1; exact List.getElem_of_eq hx _
   have d0 := hd' 0 (by omega)
   have d1 := hd' 1 (by omega)
   have d2 := hd' 2 (by omega)
   have d3 := hd' 3 (by omega)
   have d4 := hd' 4 (by omega)
   have d5 := hd' 5 (by omega)
   have d6 := hd' 6 (by omega)
   have d7 := hd' 7 (by omega)
   have d8 := hd' 8 (by omega)
   have d9 := hd' 9 (by omega)
   have d10 := hd' 10 (by omega)
   simp only [List.getElem_cons_zero, List.getElem_cons_succ, Nat.add_zero] at d0 d1 d2 d3 d4 d5 d6 d7 d8 d9 d10
   rw [hx] at hy
   clear hd hd' hcells hlen h11
   gi_wp2_with fail
   refine hR.mono ?_
   rintro e W3 ⟨rfl, hJ3⟩
   have HJ3 := Lib.hid hJ3
   clear hJ3
   gi_wp2_with fail
   go_roundw
   case rel => exact ⟨k, by omega, rfl, HJ3.out⟩
   case measure => simp [intOf]
end
section
open Go Go.RowKit
attribute [local go_sem] Oper.semAt_some
theorem backward_c (rows : List (List D)) : Con Tryz.prog 134 [.d (.sl rows)] (.fn 170 [.at_ [.sl rows]]) := by
 refine con_ofF [0] Tryz.func134 rfl (by decide +kernel) rfl rfl (by simp [Tryz.ntmps134]) fun A hA => ?_
 rw [Tryz.ntmps134] at hA
 refine goC 300 ?_
 simp only [go_sem, hA, Tryz.results134]
structure PV where
 k : Int
 t : ByteArray
 nk : Int
 nn : ByteArray
 a : Int
 b : Int
 c : Int
abbrev encPV (p : PV) : List D := [.raw (.int .i64 p.k), .raw (.string p.t), .raw (.int .i64 p.nk), .raw (.string p.nn), .raw (.string ⟨#[]⟩), .raw (.int .i64 0), .raw (.int .i64 0), .sl [], .raw (.int .i64 p.a), .raw (.int .i64 p.b), .raw (.int .i64 p.c)]
def Sk.push (k : Sk) (r : List D) : Sk := ⟨k.ver + 1, k.len + 1, k.rows.take k.len ++ [r]⟩
def pushTd (s : RS) (p : PV) : RS := { s with td := s.td.push (encPV p) }
def addTd (s : RS) (l : List PV) : RS := l.reverse.foldl pushTd s
theorem parts_of {w : World} {F : Nat → Nat → Prop} {ps : List PV} {v : Value} (h : Reads w F (.sl (ps.map encPV)) v) (h0 : 0 < ps.length) :
  ∃ b off cap, ∃ vs : List (List Value), v = .slice (some ⟨b, off, none⟩) ps.length cap ∧ ps.length ≤ cap ∧ vs.length = ps.length ∧ (∀ x ∈ vs, x.length = 11) ∧
   ∀ i (h : i < vs.length) (h' : i < ps.length) j (hj : j < vs[i].length) (hj' : j < (encPV ps[i]).length), F b (off + i * 11 + j) ∧ w.cell? ⟨b, off + i * 11 + j, none⟩ = some vs[i][j] ∧ Reads w F (encPV ps[i])[j] vs[i][j] := by
 generalize hrs : ps.map encPV = rows at h
 have hrl : rows.length = ps.length := by rw [← hrs]; simp
 cases h with
 | nil => simp at hrl; omega
 | rows st rows b off cap val hcap hpos hr hcell hsub =>
  have hst : st = 11 := by
   rw [← hr 0 hpos]
   have : rows[0] = encPV ps[0] := by simp [← hrs]
   rw [this]; rfl
  subst hst
  have hri : ∀ i (h : i < ps.length), rows[i]'(by omega) = encPV ps[i] := fun i h => by simp [← hrs]
  refine ⟨b, off, cap, (List.range rows.length).map fun i => (List.range 11).map fun j => val i j, by rw [hrl], by omega, by simp [hrl], fun x hx => ?_, fun i hi hi' j hj hj' => ?_⟩
  ·obtain ⟨i, _, rfl⟩ := List.mem_map.1 hx
   simp
  ·have hj2 : j < 11 := hj'
   have hi2 : i < rows.length := by omega
   have e := hri i hi'
   simp only [List.getElem_map, List.getElem_range]
   refine ⟨(hcell i j hi2 hj2).1, (hcell i j hi2 hj2).2, ?_⟩
   have := hsub i hi2 j (by rw [e]; exact hj')
   simp only [e] at this
   exact this
end
section
open Go Go.RowKit
variable {P : Program} {F : Nat → Nat → Prop} {w : World} {m : Nat → Nat} {tv : Nat → Value} {L : Lent}
abbrev Lq (q : Nat) (b : Blk) (L : Lent) : Lent := ⟨(q, some b) :: L.blks, L.toks⟩
abbrev Lp (o : Obj) (L : Lent) : Lent := Lq 903 (.obj o) L
theorem Lq_blk {q : Nat} {b0 : Blk} {L : Lent} (_hn : look L.blks q = none) {r : Nat} {b : Blk} : (Lq q b0 L).blk r b ↔ (r = q ∧ b = b0) ∨ (r ≠ q ∧ L.blk r b) := by
 unfold Lent.blk
 show look ((q, some b0) :: L.blks) r = _ ↔ _
 rw [look]
 by_cases h : q = r
 ·subst h
  rw [if_pos rfl]
  constructor
  ·intro h; cases h; exact .inl ⟨rfl, rfl⟩
  ·rintro (⟨_, rfl⟩ | ⟨h, _⟩)
   ·rfl
   ·exact absurd rfl h
 ·rw [if_neg h]
  constructor
  ·intro h2; exact .inr ⟨fun e => h e.symm, h2⟩
  ·rintro (⟨h2, _⟩ | ⟨_, h2⟩)
   ·exact absurd h2.symm h
   ·exact h2
theorem blk_ne {q : Nat} {L : Lent} (hn : look L.blks q = none) {r : Nat} {b : Blk} (h : L.blk r b) : r ≠ q := fun e => by
 subst e; unfold Lent.blk at h; rw [hn] at h; cases h
theorem ownsRow_same {w w' : World} {ty : TypeId} {st n : Nat} {v : Value} {xs : List Value} (h : w.ownsRow 0 ty st v n xs) (hb : ∀ x, v.ownBlock = some x → w'.heap[x]? = w.heap[x]?) : w'.ownsRow 0 ty st v n xs := ownsRow_block h hb
theorem LentOk.keep {F' : Nat → Nat → Prop} {m' : Nat → Nat} {w' : World} (q : Nat) (h : LentOk P F m tv w L) (hn : look L.blks q = none) (hm : ∀ r, r ≠ q → m' r = m r) (hment : ∀ r b, L.blk r b → b.ment q = false) (hb : ∀ x, L.at m tv x → w'.heap[x]? = w.heap[x]?)
  (hFF : ∀ b o, F b o → F' b o) (hFn : ∀ b o, F' b o → F b o ∨ ¬ L.at m tv b) (hF : ∀ b o, F b o → w'.heap[b]? = w.heap[b]?) : LentOk P F' m' tv w' L := by
 have hmr : ∀ {r b}, L.blk r b → m' r = m r := fun {r b} hr => hm r (blk_ne hn hr)
 have e : Ext (fun r => r = q) ⟨m, tv, F⟩ L.tk w ⟨m', tv, F'⟩ L.tk w' := ⟨hFF, fun b o u hf hu => (cell_block (hF b o hf)).trans hu, hm, fun r _ n' hn' => ⟨n', hn', Nat.le_refl _, fun _ => rfl⟩, fun b es c hf hu => (hF b 0 hf).trans hu⟩
 refine ⟨h.nm, h.tnm, fun r b hr => by rw [hmr hr]; exact h.lo r b hr, h.tlo, fun r b hr => ?_, fun r k hr => ?_, fun r b hr o hf => ?_, fun r k x hr hx o hf => ?_, fun r b r' b' hr hr' hne => by rw [hmr hr, hmr hr']; exact h.inj r b r' b' hr hr' hne, fun r k r' b x hr hr' hx => by rw [hmr hr']; exact h.tokblk r k r' b x hr hr' hx, h.toktok⟩
 ·rw [hmr hr]
  exact (h.at_ r b hr).mono e (fun q' hq e1 => by subst e1; rw [hment r b hr] at hq; cases hq) (hb _ (.inl ⟨r, b, hr, rfl⟩))
 ·obtain ⟨xs, h1, h2⟩ := h.tat r k hr
  exact ⟨xs, ownsRow_same h1 fun x hx => hb x (.inr ⟨r, k, hr, hx⟩), fun rows hr' => ⟨(h2 rows hr').1, fun i hi j hj => by
   obtain ⟨u, h3, h4⟩ := (h2 rows hr').2 i hi j hj
   exact ⟨u, h3, h4.mono hFF fun b o u hf hu => (cell_block (hF b o hf)).trans hu⟩⟩⟩
 ·rw [hmr hr] at hf
  rcases hFn _ _ hf with h1 | h1
  ·exact h.nF r b hr o h1
  ·exact h1 (.inl ⟨r, b, hr, rfl⟩)
 ·rcases hFn _ _ hf with h1 | h1
  ·exact h.tF r k x hr hx o h1
  ·exact h1 (.inr ⟨r, k, hr, hx⟩)
theorem Lent.at_congr {m' : Nat → Nat} {q : Nat} (hn : look L.blks q = none) (hm : ∀ r, r ≠ q → m' r = m r) {x : Nat} : L.at m' tv x ↔ L.at m tv x := by
 unfold Lent.at
 refine or_congr ⟨fun ⟨r, b, h, e⟩ => ⟨r, b, h, by rw [e, hm r (blk_ne hn h)]⟩, fun ⟨r, b, h, e⟩ => ⟨r, b, h, by rw [e, hm r (blk_ne hn h)]⟩⟩ Iff.rfl
theorem LentOk.cons {b0 : Blk} (q : Nat) (h : LentOk P F m tv w L) (hq : fixN q = true) (hn : look L.blks q = none) (ho : BlkAt ⟨m, tv, F⟩ L.tk w (m q) b0) (hlo : P.globals.size ≤ m q) (hat : ¬ L.at m tv (m q)) (hF : ∀ j, ¬ F (m q) j) : LentOk P F m tv w (Lq q b0 L) := by
 refine ⟨fun r b hr => ?_, h.tnm, fun r b hr => ?_, h.tlo, fun r b hr => ?_, h.tat, fun r b hr => ?_, h.tF, fun r b r' b' hr hr' hne => ?_, fun r k r' b x hr hr' hx => ?_, h.toktok⟩
 ·rcases (Lq_blk hn).1 hr with ⟨rfl, _⟩ | ⟨_, h1⟩
  ·exact hq
  ·exact h.nm r b h1
 ·rcases (Lq_blk hn).1 hr with ⟨rfl, _⟩ | ⟨_, h1⟩
  ·exact hlo
  ·exact h.lo r b h1
 ·rcases (Lq_blk hn).1 hr with ⟨rfl, rfl⟩ | ⟨_, h1⟩
  ·exact ho
  ·exact h.at_ r b h1
 ·rcases (Lq_blk hn).1 hr with ⟨rfl, _⟩ | ⟨_, h1⟩
  ·exact hF
  ·exact h.nF r b h1
 ·rcases (Lq_blk hn).1 hr with ⟨rfl, _⟩ | ⟨h2, h1⟩
  ·rcases (Lq_blk hn).1 hr' with ⟨rfl, _⟩ | ⟨_, h1'⟩
   ·exact absurd rfl hne
   ·exact fun e => hat (.inl ⟨r', b', h1', e⟩)
  ·rcases (Lq_blk hn).1 hr' with ⟨rfl, _⟩ | ⟨_, h1'⟩
   ·exact fun e => hat (.inl ⟨r, b, h1, e.symm⟩)
   ·exact h.inj r b r' b' h1 h1' hne
 ·rcases (Lq_blk hn).1 hr' with ⟨rfl, _⟩ | ⟨_, h1'⟩
  ·exact fun e => hat (.inr ⟨r, k, hr, by rw [← e]; exact hx⟩)
  ·exact h.tokblk r k r' b x hr h1' hx
theorem LentOk.uncons {b0 : Blk} {q : Nat} (h : LentOk P F m tv w (Lq q b0 L)) (hn : look L.blks q = none) : LentOk P F m tv w L ∧ BlkAt ⟨m, tv, F⟩ L.tk w (m q) b0 ∧ ¬ L.at m tv (m q) ∧ (∀ j, ¬ F (m q) j) ∧ P.globals.size ≤ m q := by
 have h903 : (Lq q b0 L).blk q b0 := (Lq_blk hn).2 (.inl ⟨rfl, rfl⟩)
 have hb : ∀ {r b}, L.blk r b → (Lq q b0 L).blk r b := fun {r b} hr => (Lq_blk hn).2 (.inr ⟨blk_ne hn hr, hr⟩)
 refine ⟨⟨fun r b hr => h.nm r b (hb hr), h.tnm, fun r b hr => h.lo r b (hb hr), h.tlo, fun r b hr => h.at_ r b (hb hr), h.tat, fun r b hr => h.nF r b (hb hr), h.tF, fun r b r' b' hr hr' => h.inj r b r' b' (hb hr) (hb hr'), fun r k r' b x hr hr' => h.tokblk r k r' b x hr (hb hr'), h.toktok⟩, h.at_ q _ h903, ?_, h.nF q _ h903, h.lo q _ h903⟩
 rintro (⟨r, b, hr, e⟩ | ⟨r, k, hr, e⟩)
 ·exact h.inj q _ r b h903 (hb hr) (fun e => blk_ne hn hr e.symm) e
 ·exact h.tokblk r k q _ _ hr h903 e rfl
theorem Lq_at {b0 : Blk} {q : Nat} (hn : look L.blks q = none) {x : Nat} : (Lq q b0 L).at m tv x ↔ x = m q ∨ L.at m tv x := by
 unfold Lent.at
 constructor
 ·rintro (⟨r, b, hr, e⟩ | h)
  ·rcases (Lq_blk hn).1 hr with ⟨rfl, _⟩ | ⟨_, h1⟩
   ·exact .inl e
   ·exact .inr (.inl ⟨r, b, h1, e⟩)
  ·exact .inr (.inr h)
 ·rintro (rfl | ⟨r, b, hr, e⟩ | h)
  ·exact .inl ⟨q, _, (Lq_blk hn).2 (.inl ⟨rfl, rfl⟩), rfl⟩
  ·exact .inl ⟨r, b, (Lq_blk hn).2 (.inr ⟨blk_ne hn hr, hr⟩), e⟩
  ·exact .inr h
theorem LentOk.putRec {o o' : Obj} (h : LentOk P F m tv w (Lp o L)) (hn : look L.blks 903 = none) (hment : ∀ r b, L.blk r b → b.ment 903 = false) : LentOk P F m tv (w.putObj (m 903) o') (Lp o' L) := by
 obtain ⟨h1, h2, h3, h4, h5⟩ := h.uncons hn
 have hlt : m 903 < w.heap.size := (Array.getElem?_eq_some_iff.1 h2).1
 refine LentOk.cons 903 (h1.keep 903 hn (fun _ _ => rfl) hment (fun x hx => World.putObj_heap_other fun e => h3 (e ▸ hx)) (fun _ _ h => h) (fun _ _ h => .inl h) fun b o hf => World.putObj_heap_other fun e => h4 o (e ▸ hf)) rfl hn (World.putObj_heap_same hlt) h5 h3 h4
theorem size_putObj (w : World) (r : Nat) (o : Obj) : (w.putObj r o).heap.size = w.heap.size := by simp [World.putObj]
theorem LRel.putRec {o0 o o' : Obj} {F' : Nat → Nat → Prop} {w' : World} {m' : Nat → Nat} {tv' : Nat → Value} {L' : Lent} (h : LRel P F w m tv (Lp o0 L) F' w' m' tv' (Lp o L')) (hn0 : look L.blks 903 = none) (hn : look L'.blks 903 = none) (hment : ∀ r b, L'.blk r b → b.ment 903 = false) :
  LRel P F w m tv (Lp o0 L) F' (w'.putObj (m' 903) o') m' tv' (Lp o' L') := by
 have hm : m' 903 = m 903 := h.fix 903 rfl
 refine ⟨⟨h.below.os, h.below.tape, h.below.output, by rw [size_putObj]; exact h.below.size, fun k hk hx => ?_⟩, h.ok.putRec hn hment, h.fix, h.ver, fun x hx => ?_, h.sub, fun b o hf => by rw [size_putObj]; exact h.new b o hf⟩
 ·rw [World.putObj_heap_other (fun e => hx (by rw [e, hm]; exact (Lq_at hn0).2 (.inl rfl)))]
  exact h.below.block k hk hx
 ·exact h.at_ x ((Lq_at hn).2 ((Lq_at hn).1 hx))
theorem wpIn_range_lent {g : Operand} {ps : Array Tmp} {assign body : Code} {Q : Exit → Act → World → Prop} {a : Act} {gf : Nat} {lb : Array Value} (hg : a.eval g = .func (.func gf) #[] lb) (eg : ∀ args w, (callFunc gf args).run P w = .ok (.enter gf args) w)
  (N : Nat) (encs : Nat → Array Value) (hps : ∀ k, (encs k).size = ps.size) (Pre : World → Prop)
  (hit : ∀ (l : Nat) (J : Nat → World → Prop) (W : World), (∀ k W, J k W → Pre W) → (∀ k W, k < N → J k W → YieldAt Fence.wide 0 P l (encs k) W fun e B => e = .returned (.bool true) ∧ J (k + 1) B) → J 0 W → CallsIn Fence.wide 1 P gf (#[.func (.yield l) #[] #[]] ++ lb) W fun e B => (∃ v, e = .returned v) ∧ J N B)
  (L : Nat → Lent) (hF : ∀ b o, F b o → b < w.heap.size) (hG : Glob P w) (hLok : LentOk P F m tv w (L 0)) (hpre : ∀ W, (∀ b o, F b o → W.heap[b]? = w.heap[b]?) → Pre W)
  (hn : ∀ k, look (L k).blks 903 = none) (hment : ∀ k r b, (L k).blk r b → b.ment 903 = false) (bs ks : List Nat) (_hb3 : bs.contains 903 = false) (hks : ∀ k, ks.all (fun r => match look (L k).toks r with | some (some _) => true | _ => false) = true)
  (envs : Nat → List (Nat × AV)) (hen3 : ∀ k t, ((⟨envs k, [], []⟩ : St).get t).ment 903 = false) (henv : ∀ k F' W m' tv', k < N → LRel P F w m tv (L 0) F' W m' tv' (L k) → ∀ t, Has ⟨m', tv', F'⟩ (L k).tk W ((⟨envs k, [], []⟩ : St).get t) (((ps.zip (encs k)).foldl (fun t (p, v) => t.setIfInBounds p v) a.tmps).getD t undef))
  (hround : ∀ k, k < N → ∀ (A : Base P) (o1 o2 : Obj), A.N = a.tmps.size → SatC P A assign ⟨envs k, (903, some (.obj o1)) :: (L k).blks, (L k).toks⟩ fun e σ1 => e = .normal ∧ σ1.blk 903 = some (.obj o1) ∧
   SatC P A body (σ1.setBlk 903 (some (.obj o2))) fun e σ2 => e = .normal ∧ σ2.blk 903 = some (.obj o2) ∧ lentChk σ2 bs ks = true ∧ σ2.lends bs ks = L (k + 1))
  (hdone : ∀ D F' W m' tv', w.heap.size ≤ D → LRel P F w m tv (L 0) F' W m' tv' (L N) → W.heap[D]? = some (.deferred (some [])) → (∀ o, ¬ F' D o) → ¬ (L N).at m' tv' D → Q .normal { a with defers := { target := .collected D, args := #[] } :: a.defers } W) :
  (Code.rangeFunc g ps assign body).wpIn Fence.wide 2 P Q a w := by
 refine wpIn_rangeFunc ?_
 intro fn hfn
 -- the two blocks that the statement lays: one for the rounds' deferred calls, then the record of the loop
 obtain ⟨r0, hr0⟩ : ∃ r0 : Loop, { state := .ready, pending := none, fn, tmps := a.tmps, params := ps, assign, body, defers := w.heap.size } = r0 := ⟨_, rfl⟩
 have hst : r0.state = .ready := by rw [← hr0]
 have hpe : r0.pending = none := by rw [← hr0]
 have hrf : r0.fn = fn := by rw [← hr0]
 have hrt : r0.tmps = a.tmps := by rw [← hr0]
 have hrp : r0.params = ps := by rw [← hr0]
 have hra : r0.assign = assign := by rw [← hr0]
 have hrb : r0.body = body := by rw [← hr0]
 have hback : ({ r0 with state := .ready, pending := none } : Loop) = r0 := by rw [← hr0]
 obtain ⟨W1, hW1⟩ : ∃ W1, (w.alloc (.deferred (some []))).alloc (.loop r0) = W1 := ⟨_, rfl⟩
 have hbel : Below w.heap.size w W1 := by rw [← hW1]; exact ((Below.refl _ _).alloc (Nat.le_refl _) _).alloc (by simp) _
 have hs1 : W1.heap.size = w.heap.size + 2 := by rw [← hW1]; simp
 have hL1 : W1.heap[w.heap.size + 1]? = some (.loop r0) := by
  have := World.alloc_heap_new (w.alloc (.deferred (some []))) (.loop r0)
  rw [World.size_alloc, hW1] at this
  exact this
 have hK1 : W1.heap[w.heap.size]? = some (.deferred (some [])) := by
  rw [← hW1]; exact (Below.heap_alloc _ _ _ (by simp)).trans (World.alloc_heap_new w _)
 obtain ⟨m1, hm1⟩ : ∃ m1, updN m 903 (w.heap.size + 1) = m1 := ⟨_, rfl⟩
 have hm903 : m1 903 = w.heap.size + 1 := by rw [← hm1]; exact updN_same _ _ _
 have hmo : ∀ r, r ≠ 903 → m1 r = m r := fun r hr => by rw [← hm1]; exact updN_other hr
 have hatlt : ∀ x, (L 0).at m tv x → x < w.heap.size := fun x hx => by
  rcases hx with ⟨r, b, hr, rfl⟩ | ⟨r, k, hr, hx⟩
  ·exact (hLok.at_ r b hr).lt
  ·exact hLok.tlt hr hx
 have hk0 : LentOk P F m1 tv W1 (L 0) := hLok.keep 903 (hn 0) hmo (hment 0) (fun x hx => hbel.block x (hatlt x hx)) (fun _ _ h => h) (fun _ _ h => .inl h) fun b o hf => hbel.block b (hF b o hf)
 have hk1 : LentOk P F m1 tv W1 (Lp (.loop r0) (L 0)) := by
  refine hk0.cons 903 rfl (hn 0) (by rw [hm903]; exact hL1) (by rw [hm903]; have := hG.low; omega) (fun h => ?_) (fun j hf => ?_)
  ·rw [hm903] at h
   have := hatlt _ ((Lent.at_congr (hn 0) hmo).1 h)
   omega
  ·rw [hm903] at hf
   have := hF _ _ hf; omega
 have hG1 : Glob P W1 := hG.keep (X := fun _ => False) (.of hbel) fun _ h => h.elim
 have outer : ∀ k F' W m' tv' o', LRel P F W1 m1 tv (Lp (.loop r0) (L 0)) F' W m' tv' (Lp o' (L k)) → LRel P F w m tv (L 0) F' W (updN m' 903 (m 903)) tv' (L k) ∧ (∀ r, r ≠ 903 → updN m' 903 (m 903) r = m' r) := fun k F' W m' tv' o' h => by
  have hmo2 : ∀ r, r ≠ 903 → updN m' 903 (m 903) r = m' r := fun r hr => updN_other hr
  obtain ⟨h1, h2, h3, h4, h5⟩ := h.ok.uncons (hn k)
  have hsz := h.below.size
  refine ⟨⟨⟨h.below.os.trans hbel.os, h.below.tape.trans hbel.tape, h.below.output.trans hbel.output, Nat.le_trans hbel.size h.below.size, fun q hq hx => (h.below.block q (by omega) fun hx' => ?_).trans (hbel.block q hq)⟩, h1.keep 903 (hn k) hmo2 (hment k) (fun _ _ => rfl) (fun _ _ h => h) (fun _ _ h => .inl h) (fun _ _ _ => rfl), fun r hr => ?_, h.ver, fun x hx => ?_, h.sub, fun b o hf => (h.new b o hf).imp id fun h => ⟨by omega, h.2⟩⟩, hmo2⟩
  ·rcases (Lq_at (hn 0)).1 hx' with e | e
   ·rw [hm903] at e; omega
   ·exact hx ((Lent.at_congr (hn 0) hmo).1 e)
  ·by_cases hr3 : r = 903
   ·subst hr3; exact updN_same _ _ _
   ·rw [hmo2 r hr3, h.fix r hr, hmo r hr3]
  ·rcases h.at_ x ((Lq_at (hn k)).2 (.inr ((Lent.at_congr (hn k) hmo2).1 hx))) with e | e
   ·rcases (Lq_at (hn 0)).1 e with e | e
    ·right; rw [hm903] at e; omega
    ·exact .inl ((Lent.at_congr (hn 0) hmo).1 e)
   ·right; omega
 refine ⟨w.heap.size + 1, [{ target := .collected w.heap.size, args := #[] }], W1, { target := .fn (.func gf) lb, args := #[.func (.yield (w.heap.size + 1)) #[] #[]] }, W1, gf,
  #[.func (.yield (w.heap.size + 1)) #[] #[]] ++ lb, W1, ?_, ?_, ?_, ?_, fun _ => by omega, ?_⟩
 ·rw [← hW1, ← hr0]; exact run_enterLoop_outer _ _ _ _ _
 ·simp only [resolve, hg]
  simp [go_sem]
 ·intro f' hf'; trivial
 ·simp [invoke, go_sem, eg]
 refine (hit (w.heap.size + 1) (fun k W => ∃ F' m' tv', LRel P F W1 m1 tv (Lp (.loop r0) (L 0)) F' W m' tv' (Lp (.loop r0) (L k))) W1 (fun k W ⟨F', m', tv', h⟩ => hpre W fun b o hf => ?_) ?_ ⟨F, m1, tv, .refl hk1⟩).mono ?_
 ·have h1 := hF b o hf
  refine (h.below.block b (by omega) fun hx => ?_).trans (hbel.block b h1)
  rcases (Lq_at (hn 0)).1 hx with e | e
  ·rw [hm903] at e; omega
  ·rcases (Lent.at_congr (hn 0) hmo).1 e with ⟨r, b', hr, rfl⟩ | ⟨r, k, hr, hx⟩
   ·exact hLok.nF r b' hr o hf
   ·exact hLok.tF r k b hr hx o hf
 ·rintro k W hkN ⟨F', m', tv', h⟩
  obtain ⟨hout, hmo2⟩ := outer k F' W m' tv' _ h
  obtain ⟨u1, u2, u3, u4, u5⟩ := h.ok.uncons (hn k)
  have hml : m' 903 = w.heap.size + 1 := (h.fix 903 rfl).trans hm903
  rw [hml] at u2
  have hFW : ∀ b o, F' b o → b < W.heap.size := fun b o hf => by
   have := h.below.size
   rcases h.new b o hf with e | e
   ·have := hF b o e; omega
   ·exact e.2
  have hGW : Glob P W := hG1.keep h.below fun x hx => lent_lo hk1 hx
  have hy := run_yield (P := P) (args := encs k) u2 (by rw [hrp]; exact hps k)
  rw [hrf, hrt, hrp, hra, hrb] at hy
  refine ⟨fn, _, assign, body, hy, roundIn_of_wpIn hfn ?_⟩
  have hsz : ((ps.zip (encs k)).foldl (fun t (p, v) => t.setIfInBounds p v) a.tmps).size = a.tmps.size := by
   have key : ∀ (l : List (Tmp × Value)) (ts : Array Value), (l.foldl (fun t (x : Tmp × Value) => t.setIfInBounds x.1 x.2) ts).size = ts.size := fun l => by
    induction l with
    | nil => intro ts; rfl
    | cons x l ih => intro ts; simp only [List.foldl_cons]; rw [ih]; simp
   have := key (ps.zip (encs k)).toList a.tmps
   rw [Array.foldl_toList] at this
   exact this
  have hstart := lent_start (N := a.tmps.size) (ro := some (w.heap.size + 1)) (env := envs k) (ts := (ps.zip (encs k)).foldl (fun t (p, v) => t.setIfInBounds p v) a.tmps) hFW hGW h.ok hsz fun t => by
   have hh := henv k F' W _ tv' hkN hout t
   have ex : Ext (fun r => r = 903) ⟨updN m' 903 (m 903), tv', F'⟩ (L k).tk W ⟨m', tv', F'⟩ (L k).tk W := ⟨fun _ _ h => h, fun _ _ _ _ h => h, fun r hr => (hmo2 r hr).symm, fun r _ n' hn' => ⟨n', hn', Nat.le_refl _, fun _ => rfl⟩, fun _ _ _ _ h => h⟩
   exact hh.mono ex fun q hq e => by subst e; rw [hen3] at hq; cases hq
  have hS := hround k hkN (lentBase P F' W m' tv' (Lp (.loop r0) (L k)) a.tmps.size (some (w.heap.size + 1)) hGW h.ok) (.loop r0) (.loop { r0 with state := .busy }) rfl _ _ _ hstart
  refine wpIn_mono hS fun e a1 W2 hq => ?_
  obtain ⟨σ1, g1, ⟨rfl, hb1, hbody⟩, ok1⟩ := hq
  have hg1 : g1.m 903 = w.heap.size + 1 := (ok1.fix 903 rfl).trans hml
  obtain ⟨hx1, hx2⟩ := ok1.blk 903 _ hb1
  have hx3 : W2.heap[w.heap.size + 1]? = some (.loop r0) := by rw [← hg1]; exact hx2
  have hlt2 : w.heap.size + 1 < W2.heap.size := (Array.getElem?_eq_some_iff.1 hx3).1
  have hbeg := run_beginRound (P := P) hx3 hst
  refine ⟨_, hbeg, ?_⟩
  have ok2 := (ok1.write (k' := .obj (.loop { r0 with state := .busy })) (w' := W2.putObj (w.heap.size + 1) (.loop { r0 with state := .busy })) hb1 (fun b hb => World.putObj_heap_other (by rw [← hg1]; exact hb)) (size_putObj _ _ _)
   (.one (m := w.heap.size + 1) (by rw [← hg1]; exact hx1.imp id And.left) rfl rfl rfl (by rw [size_putObj]; exact Nat.le_refl _) fun b hb => World.putObj_heap_other hb) (by show (W2.putObj _ _).heap[g1.m 903]? = _; rw [hg1]; exact World.putObj_heap_same hlt2) rfl).1
  refine wpIn_mono (hbody _ _ _ ok2) fun e a3 W3 hq => ?_
  obtain ⟨σ2, g2, ⟨rfl, hb2, hch, hl2⟩, ok3⟩ := hq
  have hg2 : g2.m 903 = w.heap.size + 1 := (ok3.fix 903 rfl).trans hml
  have hx4 : W3.heap[w.heap.size + 1]? = some (.loop { r0 with state := .busy }) := by rw [← hg2]; exact (ok3.blk 903 _ hb2).2
  have hend := run_endRound (P := P) none hx4
  simp only [Option.isNone_none, if_true] at hend
  rw [hback] at hend
  refine ⟨_, _, hend, rfl, ?_⟩
  have hchk : lentChk σ2 (903 :: bs) ks = true := by
   unfold lentChk at hch ⊢
   rw [Bool.and_eq_true] at hch ⊢
   refine ⟨?_, hch.2⟩
   rw [List.all_cons, hch.1, hb2]; rfl
  have hrel := lent_end (903 :: bs) ks ok3 hchk (hks k)
  have hlr : σ2.lends (903 :: bs) ks = Lp (.loop { r0 with state := .busy }) (L (k + 1)) := by
   rw [← hl2]
   unfold St.lends
   rw [keepL, hb2]
  rw [hlr] at hrel
  have h9 := (h.trans hrel).putRec (o' := .loop r0) (hn 0) (hn (k + 1)) (hment (k + 1))
  rw [hg2] at h9
  exact ⟨_, _, _, h9⟩
 ·rintro e W2 ⟨⟨v, rfl⟩, F', m', tv', h⟩
  obtain ⟨u1, u2, u3, u4, u5⟩ := h.ok.uncons (hn N)
  have hml : m' 903 = w.heap.size + 1 := (h.fix 903 rfl).trans hm903
  rw [hml] at u2
  have h9 := h.putRec (o' := .loop { r0 with state := .exhausted }) (hn 0) (hn N) (hment N)
  obtain ⟨hout, _⟩ := outer N F' _ m' tv' _ h9
  rw [hml] at hout
  refine ⟨none, W2.putObj (w.heap.size + 1) (.loop { r0 with state := .exhausted }), by have := run_endLoop (P := P) u2 (by rw [hst]; simp); exact this.trans (by rw [hpe]), ?_⟩
  refine hdone w.heap.size F' _ _ tv' (Nat.le_refl _) hout ?_ (fun o hf => ?_) fun hx => ?_
  rotate_left
  ·rcases h.new _ o hf with e | e
   ·have := hF _ _ e; omega
   ·omega
  ·rcases h.at_ _ ((Lq_at (hn N)).2 (.inr ((Lent.at_congr (q := 903) (hn N) fun r hr => updN_other hr).1 hx))) with e | e
   ·rcases (Lq_at (hn 0)).1 e with e | e
    ·rw [hm903] at e; omega
    ·have := hatlt _ ((Lent.at_congr (hn 0) hmo).1 e)
     omega
   ·omega
  rw [World.putObj_heap_other (by omega)]
  refine (h.below.block _ (by omega) fun hx => ?_).trans hK1
  rcases (Lq_at (hn 0)).1 hx with e | e
  ·rw [hm903] at e; omega
  ·have := hatlt _ ((Lent.at_congr (hn 0) hmo).1 e)
   omega
theorem goC0 {A : Base P} (n : Nat) {c : Code} {σ : St} {Q : Exit → St → Prop} (h : go P A n (.code c) [] σ Q) : SatC P A c σ Q := goC (s := []) n h
end
section
open Go Go.RowKit
attribute [local go_sem] Oper.semAt_some
theorem LRel.same {P : Program} {F F' : Nat → Nat → Prop} {w w' : World} {m m' : Nat → Nat} {tv tv' : Nat → Value} {L L' : Lent} (h : LRel P F w m tv L F' w' m' tv' L') (hLok : LentOk P F m tv w L) (hF : ∀ b o, F b o → b < w.heap.size) {b o : Nat} (hf : F b o) : w'.heap[b]? = w.heap[b]? := by
 refine h.below.block b (hF b o hf) fun hx => ?_
 rcases hx with ⟨r, b', hr, rfl⟩ | ⟨r, k, hr, hx⟩
 ·exact hLok.nF r b' hr o hf
 ·exact hLok.tF r k b hr hx o hf
def adds (s : RS) (ps : List PV) (k : Nat) : RS := (ps.reverse.take k).foldl pushTd s
theorem adds_zero (s : RS) (ps : List PV) : adds s ps 0 = s := by simp [adds]
theorem adds_all (s : RS) (ps : List PV) : adds s ps ps.length = addTd s ps := by
 unfold adds addTd
 rw [List.take_of_length_le (by simp)]
def pAt (ps : List PV) (k : Nat) : PV := ps.reverse.getD k ⟨0, ⟨#[]⟩, 0, ⟨#[]⟩, 0, 0, 0⟩
theorem pAt_eq (ps : List PV) (k : Nat) (h : k < ps.length) : pAt ps k = ps[ps.length - 1 - k]'(by omega) := by
 unfold pAt
 rw [List.getD_eq_getElem?_getD, List.getElem?_eq_getElem (by simpa using h), Option.getD_some, List.getElem_reverse]
theorem adds_succ (s : RS) (ps : List PV) (k : Nat) (h : k < ps.length) : adds s ps (k + 1) = pushTd (adds s ps k) (pAt ps k) := by
 rw [pAt_eq ps k h]
 unfold adds
 rw [List.take_succ_eq_append_getElem (by simpa using h), List.foldl_append]
 simp
theorem adds_len (s : RS) (ps : List PV) (hs : s.td.len ≤ s.td.rows.length) : ∀ k, k ≤ ps.length → (adds s ps k).td.len = s.td.len + k ∧ (adds s ps k).td.len ≤ (adds s ps k).td.rows.length
 | 0, _ => by rw [adds_zero]; exact ⟨rfl, hs⟩
 | k + 1, h => by
  obtain ⟨h1, h2⟩ := adds_len s ps hs k (by omega)
  rw [adds_succ s ps k (by omega)]
  refine ⟨by simp only [pushTd, Sk.push]; omega, ?_⟩
  simp only [pushTd, Sk.push, List.length_append, List.length_take, List.length_singleton]
  omega
theorem zip2 (T : Array Value) (x y : Value) : Array.foldl (fun t (p : Nat × Value) => t.setIfInBounds p.fst p.snd) T ((#[8, 9] : Array Nat).zip #[x, y]) = (T.setIfInBounds 8 x).setIfInBounds 9 y := by
 simp
theorem fitPV (p : PV) : rowsFit 11 [encPV p] := by
 intro r hr
 rw [List.mem_singleton] at hr
 subst hr
 refine ⟨rfl, fun x hx => ?_⟩
 simp only [List.mem_cons, List.not_mem_nil, or_false] at hx
 rcases hx with rfl | rfl | rfl | rfl | rfl | rfl | rfl | rfl | rfl | rfl | rfl <;> rfl
abbrev addL (s : RS) : Lent := Lq 902 (.cell 58 [.box 901 0]) (rdL s)
set_option maxRecDepth 100000 in
set_option maxHeartbeats 8000000 in
theorem add_r (s : RS) (ps : List PV) (h0 : 0 < ps.length) (hlen : ps.length ≤ 1000) (hs : s.td.len ≤ s.td.rows.length) (hb : s.td.len + ps.length ≤ 1073741824) :
  ConL Tryz.prog 75 [.box 901 0, .d (.sl (ps.map encPV))] (rdL s) (fun o => o = .ret (.tup []) (rdL (addTd s ps))) := by
 refine ⟨⟨_, Tryz.func75, by decide +kernel, rfl⟩, fun F w vs m tv hF hG hLok hl hv => ?_⟩
 match vs, hl with
 | [p, q], _ =>
 have hp := hv 0 (by simp) (by simp)
 have hq := hv 1 (by simp) (by simp)
 simp only [List.getElem_cons_zero, List.getElem_cons_succ] at hp hq
 obtain rfl := hp.box_eq
 have hq' := hq.sl
 clear hp hv
 refine (callsIn_wide (n := 2)).1 ?_
 refine callsIn_of_wp_marks Tryz.func75 rfl trivial ?_ rfl
 simp only [Tryz.ntmps75, List.size_toArray, List.length_cons, List.length_nil, Nat.reduceAdd, Nat.reduceSub, Array.replicate_succ, Array.replicate_zero, List.push_toArray, List.append_toArray, List.nil_append, List.cons_append]
 obtain ⟨wA, hwA⟩ : ∃ wA, w.alloc (.cells #[.pointer (some ⟨m 901, 0, none⟩)] 58) = wA := ⟨_, rfl⟩
 have hbA : Below w.heap.size w wA := by rw [← hwA]; exact (Below.refl _ _).alloc (Nat.le_refl _) _
 have hsA : wA.heap.size = w.heap.size + 1 := by rw [← hwA]; simp
 have hb0 : wA.heap[w.heap.size]? = some (.cells #[.pointer (some ⟨m 901, 0, none⟩)] 58 (0, 0)) := by rw [← hwA]; exact World.alloc_heap_new w _
 have hGA : Glob Tryz.prog wA := hG.keep (X := fun _ => False) (.of hbA) fun _ h => h.elim
 have hqA : Reads wA F (.sl (ps.map encPV)) q := hq'.mono (fun _ _ h => h) fun b o u hf hu => (hbA.cell (p := ⟨b, o, none⟩) (hF b o hf)).trans hu
 have HC := Lib.hid ((backward_c (ps.map encPV)).2.2 F wA [q] (fun b o hf => by have := hF b o hf; omega) hGA rfl fun i hi hv => by
  match i, hi with
  | 0, _ => exact .d hqA)
 gi_wp2_with (first | (rw [hwA]; done))
 refine ⟨trivial, (callsIn_wide.2 HC.out).mono ?_⟩
 rintro e wB ⟨u, rfl, hu, hbB⟩
 obtain ⟨us, rfl, hul, hus⟩ := Has.fn_eq hu
 -- the loop
 match us, hul, hus with
 | [b1v], _, hus =>
 have hb1 := hus 0 (by simp) (by simp)
 simp only [List.getElem_cons_zero] at hb1
 obtain ⟨b1, o1, rfl, hc1⟩ := hb1.at_eq
 obtain ⟨hf1, u, hcu, hru⟩ := hc1 0 (by simp)
 simp only [Nat.add_zero, List.getElem_cons_zero] at hf1 hcu hru
 obtain ⟨b, off, cap, vs, rfl, hcap, hvl, h11, hcells⟩ := parts_of hru h0
 have hsB := hbB.size
 obtain ⟨F', hF'⟩ : ∃ F' : Nat → Nat → Prop, (fun b o => F b o ∨ (wA.heap.size ≤ b ∧ b < wB.heap.size)) = F' := ⟨_, rfl⟩
 simp only [gh0] at hf1
 have hfm : ∀ b o, F' b o ↔ F b o ∨ (wA.heap.size ≤ b ∧ b < wB.heap.size) := fun b o => by rw [← hF']
 rw [hF'] at hcells
 obtain ⟨m1, hm1⟩ : ∃ m1, updN m 902 w.heap.size = m1 := ⟨_, rfl⟩
 have hm902 : m1 902 = w.heap.size := by rw [← hm1]; exact updN_same _ _ _
 have hmo : ∀ r, r ≠ 902 → m1 r = m r := fun r hr => by rw [← hm1]; exact updN_other hr
 have hlow := hG.low
 have hn : ∀ s : RS, look (rdL s).blks 902 = none := fun s => rfl
 have hatlt : ∀ x, (rdL s).at m tv x → x < w.heap.size := fun x hx => by
  rcases hx with ⟨r, b, hr, rfl⟩ | ⟨r, k, hr, hx⟩
  ·exact (hLok.at_ r b hr).lt
  ·exact hLok.tlt hr hx
 have hblk1 : ∀ (s : RS) r b, (rdL s).blk r b → b.ment 902 = false ∧ b.ment 903 = false ∧ b.lentOk = true := fun s r b hr => by
  unfold Lent.blk at hr
  simp only [look] at hr
  split at hr
  ·cases hr; exact ⟨rfl, rfl, rfl⟩
  ·cases hr
 have hwAB : ∀ x, x < wA.heap.size → wB.heap[x]? = wA.heap[x]? := fun x hx => hbB.block x hx
 have hwB : ∀ x, x < w.heap.size → wB.heap[x]? = w.heap[x]? := fun x hx => (hwAB x (by omega)).trans (hbA.block x hx)
 have hLokB : LentOk Tryz.prog F' m1 tv wB (addL s) := by
  have k0 : LentOk Tryz.prog F' m1 tv wB (rdL s) := hLok.keep 902 (hn s) hmo (fun r b hr => (hblk1 s r b hr).1) (fun x hx => hwB x (hatlt x hx)) (fun b o h => (hfm b o).2 (.inl h)) (fun b o h => ((hfm b o).1 h).imp id fun h hx => by have := hatlt _ hx; omega) fun b o hf => hwB b (hF b o hf)
  refine k0.cons 902 rfl (hn s) ⟨[.pointer (some ⟨m 901, 0, none⟩)], by rw [hm902, hwAB _ (by omega)]; exact hb0, rfl, fun j hj hj' => ?_⟩ (by rw [hm902]; omega) (fun hx => ?_) (fun j hf => ?_)
  ·match j, hj with
   | 0, _ => rw [← hmo 901 (by decide)]; exact .box 901 0
  ·rw [hm902] at hx
   have := hatlt _ ((Lent.at_congr (hn s) hmo).1 hx)
   omega
  ·rw [hm902] at hf
   rcases (hfm _ _).1 hf with h | h
   ·have := hF _ _ h; omega
   ·omega
 have hGB : Glob Tryz.prog wB := hGA.keep (X := fun _ => False) (.of hbB) fun _ h => h.elim
 have hFB : ∀ b o, F' b o → b < wB.heap.size := fun b o hf => by
  rcases (hfm b o).1 hf with h | h
  ·have := hF _ _ h; omega
  ·exact h.2
 gi_wp2_with fail
 have hN0 : vs.length = ps.length := hvl
 refine wpIn_range_lent rfl (enters_of Tryz.func170 (by kernel_rfl) rfl) ps.length (fun k => #[.int .i64 ((ps.length - 1 - k : Nat) : Int), .agg (vs.getD (ps.length - 1 - k) []).toArray]) (fun _ => rfl) (fun W => PartsAt W b1 o1 vs) ?hit (fun k => addL (adds s ps k)) hFB hGB (by rw [adds_zero]; exact hLokB) ?pre (fun _ => rfl) ?ment [902, 901] [910, 911, 912, 913] rfl (fun k => rfl)
  (fun k => [(2, .box 902 0), (8, .d (.raw (.int .i64 ((ps.length - 1 - k : Nat) : Int)))), (9, .agg ((encPV (pAt ps k)).map .d))]) ?hen3 ?henv ?hround ?hdone
 case hit =>
  intro l J W hJ hY hJ0
  have hY' : ∀ k W (h : k < vs.length), J (vs.length - 1 - k) W → YieldAt Fence.wide (1 - 1) Tryz.prog l #[.int .i64 k, .agg vs[k].toArray] W fun e B => e = .returned (.bool true) ∧ J (vs.length - k) B := fun k W h hJk => by
   have h1 := hY (vs.length - 1 - k) W (by omega) hJk
   have e1 : ps.length - 1 - (vs.length - 1 - k) = k := by omega
   have e2 : vs.length - 1 - k + 1 = vs.length - k := by omega
   simp only [e1, e2] at h1
   rw [List.getD_eq_getElem?_getD, List.getElem?_eq_getElem h, Option.getD_some] at h1
   exact h1
  have := back_in 1 l b1 o1 (Nat.le_refl _) vs (by omega) J hJ hY' W hJ0
  rw [hN0] at this
  exact this
 case pre =>
  intro W hW
  refine ⟨h11, by omega, b, off, cap, ?_, by omega, fun i hi j hj => ?_⟩
  ·have h1 := hW b1 o1 (by rw [← hF']; exact hf1)
   rw [← hN0] at hcu
   exact (cell_block h1).trans hcu
  ·have hi' : i < ps.length := by omega
   have hl11 := h11 _ (List.getElem_mem hi)
   obtain ⟨c1, c2, _⟩ := hcells i hi hi' j hj (by show j < 11; omega)
   exact (cell_block (hW _ _ c1)).trans c2
 case ment =>
  intro k r b hr
  rcases (Lq_blk (hn _)).1 hr with ⟨_, rfl⟩ | ⟨_, h⟩
  ·rfl
  ·exact (hblk1 _ r b h).2.1
 case hen3 =>
  intro k t
  unfold St.get
  simp only [look]
  split
  ·rfl
  ·split
   ·rfl
   ·split <;> rfl
 case henv =>
  intro k G W m' tv' hk hrel t
  have hm2 : m' 902 = w.heap.size := (hrel.fix 902 rfl).trans hm902
  have hp9 : Has ⟨m', tv', G⟩ (addL (adds s ps k)).tk W (.agg ((encPV (pAt ps k)).map .d)) (.agg (vs.getD (ps.length - 1 - k) []).toArray) := by
   have hi : ps.length - 1 - k < vs.length := by omega
   have hi' : ps.length - 1 - k < ps.length := by omega
   have hl11 := h11 _ (List.getElem_mem hi)
   rw [List.getD_eq_getElem?_getD, List.getElem?_eq_getElem hi, Option.getD_some, pAt_eq ps k hk]
   refine .agg _ _ (by rw [hl11]; rfl) fun j hj hj' => ?_
   rw [List.getElem_map]
   have hLok0 : LentOk Tryz.prog F' m1 tv wB (addL (adds s ps 0)) := by rw [adds_zero]; exact hLokB
   exact .d ((hcells _ hi hi' j hj' (by simpa using hj)).2.2.mono (fun b o h => hrel.sub b o h) fun b o u hf hu => (cell_block (hrel.same hLok0 hFB hf)).trans hu)
  unfold St.get
  simp only [look]
  rw [zip2]
  by_cases t2 : 2 = t
  ·subst t2
   rw [← hm2]
   exact .box 902 0
  by_cases t8 : 8 = t
  ·subst t8
   exact .d (.raw _)
  by_cases t9 : 9 = t
  ·subst t9
   exact hp9
  rw [if_neg t2, if_neg t8, if_neg t9]
  exact .dead _
 case hround =>
  intro k hk A o1 o2 hA
  have hA : A.N = 20 := hA
  obtain ⟨l1, l2⟩ := adds_len s ps hs k (by omega)
  rw [adds_succ s ps k hk]
  generalize adds s ps k = s' at l1 l2 ⊢
  generalize pAt ps k = pv
  refine goC0 300 ?_
  simp only [go_sem, hA]
  refine goC0 300 ?_
  simp only [go_sem, hA, mixed]
  refine ⟨⟨fitPV pv, l2, by omega⟩, by kernel_rfl, ?_⟩
  rfl
 case hdone =>
  intro D G W m' tv' hD hrel hdef hGD hatD
  have hLok0 : LentOk Tryz.prog F' m1 tv wB (addL (adds s ps 0)) := by rw [adds_zero]; exact hLokB
  rw [adds_all] at hrel hatD
  have hDs : D < W.heap.size := (Array.getElem?_eq_some_iff.1 hdef).1
  have hsW := hrel.below.size
  obtain ⟨u1, u2, u3, u4, u5⟩ := hrel.ok.uncons (hn _)
  obtain ⟨m2, hm2⟩ : ∃ m2, updN m' 902 (m 902) = m2 := ⟨_, rfl⟩
  have hm2o : ∀ r, r ≠ 902 → m2 r = m' r := fun r hr => by rw [← hm2]; exact updN_other hr
  gi_wp2_with fail
  refine ⟨by simp, .inl ⟨_, _, rfl, run_takeDeferred hdef, ?_⟩⟩
  refine ⟨.tuple #[], by simp [results, Tryz.f75], ?_, .inl ⟨.tuple #[], .tup [], rdL (addTd s ps), m2, tv', rfl, rfl, rfl, fun r b hr => (hblk1 _ r b hr).2.2, fun r v hr => ?_, fun r v hr => ?_, .tup [] [] rfl (fun i hi => by simp at hi), ?_, fun r hr => ?_, fun r k' hr => ?_, fun x hx => ?_⟩⟩
  ·refine ⟨hrel.below.os.trans (hbB.os.trans hbA.os), hrel.below.tape.trans (hbB.tape.trans hbA.tape), hrel.below.output.trans (hbB.output.trans hbA.output), by rw [size_putObj]; omega, fun k hk hx => ?_⟩
   rw [World.putObj_heap_other (by omega)]
   refine (hrel.below.block k (by omega) fun hx' => ?_).trans (hwB k hk)
   rcases (Lq_at (hn _)).1 hx' with e | e
   ·rw [hm902] at e; omega
   ·rw [adds_zero] at e
    exact hx ((Lent.at_congr (hn s) hmo).1 e)
  ·simp only [look] at hr
   split at hr
   ·rename_i e; subst e; rfl
   ·cases hr
  ·simp only [look] at hr
   split at hr
   ·rename_i e; subst e; rfl
   ·split at hr
    ·rename_i e; subst e; rfl
    ·split at hr
     ·rename_i e; subst e; rfl
     ·split at hr
      ·rename_i e; subst e; rfl
      ·cases hr
  ·have hne : ∀ x, (rdL (addTd s ps)).at m' tv' x → x ≠ D := fun x hx e => hatD (by subst e; exact (Lq_at (hn _)).2 (.inr hx))
   refine u1.keep 902 (hn _) hm2o (fun r b hr => (hblk1 _ r b hr).1) (fun x hx => World.putObj_heap_other (hne x hx)) (fun b o hf => ?_) (fun b o hf => ?_) fun b o hf => World.putObj_heap_other fun e => hGD o (e ▸ hf)
   ·have hnat : ¬ (rdL (addTd s ps)).at m2 tv' b := fun hx => by
     rcases (Lent.at_congr (hn _) hm2o).1 hx with ⟨r, b', hr, rfl⟩ | ⟨r, k, hr, hx⟩
     ·exact u1.nF r b' hr o hf
     ·exact u1.tF r k b hr hx o hf
    unfold freshBut
    rw [size_putObj]
    rcases hrel.new b o hf with h | h
    ·rcases (hfm b o).1 h with h | h
     ·exact .inl h
     ·exact .inr ⟨by omega, by omega, hnat⟩
    ·exact .inr ⟨by omega, h.2, hnat⟩
   ·rcases hf with h | h
    ·exact .inl (hrel.sub b o ((hfm b o).2 (.inl h)))
    ·exact .inr fun hx => h.2.2 ((Lent.at_congr (hn _) hm2o).2 hx)
  ·by_cases e : r = 902
   ·subst e; rw [← hm2]; exact updN_same _ _ _
   ·rw [hm2o r e, hrel.fix r hr, hmo r e]
  ·obtain ⟨k, h1, h2, h3⟩ := hrel.ver r k' hr
   rw [adds_zero] at h1
   exact ⟨k, h1, h2, h3⟩
  ·rcases hrel.at_ x ((Lq_at (hn _)).2 (.inr ((Lent.at_congr (hn _) hm2o).1 hx))) with e | e
   ·rcases (Lq_at (hn _)).1 e with e | e
    ·right; rw [hm902] at e; omega
    ·rw [adds_zero] at e
     exact .inl ((Lent.at_congr (hn s) hmo).1 e)
   ·right; omega
end
section
open Go Go.RowKit
abbrev pvO (k : Int) : PV := ⟨k, ⟨#[]⟩, 0, ⟨#[]⟩, 0, 0, 0⟩
abbrev pvW (s : ByteArray) : PV := ⟨1, s, 0, ⟨#[]⟩, 0, 0, 0⟩
abbrev pvS (s : ByteArray) : PV := ⟨2, s, 0, ⟨#[]⟩, 0, 0, 0⟩
abbrev pvJ (k a b c : Int) : PV := ⟨7, ⟨#[]⟩, k, ⟨#[]⟩, a, b, c⟩
theorem word_c (s : ByteArray) : Con Tryz.prog 169 [.d (.raw (.string s))] (.agg ((encPV (pvW s)).map .d)) := by
 refine con_of Tryz.func169 rfl (by decide +kernel) rfl rfl (by simp [Tryz.ntmps169]) fun A hA => ?_
 rw [Tryz.ntmps169] at hA
 refine goC 300 ?_
 simp only [go_sem, hA, Tryz.results169]
theorem sign_c (s : ByteArray) : Con Tryz.prog 140 [.d (.raw (.string s))] (.agg ((encPV (pvS s)).map .d)) := by
 refine con_of Tryz.func140 rfl (by decide +kernel) rfl rfl (by simp [Tryz.ntmps140]) fun A hA => ?_
 rw [Tryz.ntmps140] at hA
 refine goC 300 ?_
 simp only [go_sem, hA, Tryz.results140]
theorem join_c (k a b c : Int) : Con Tryz.prog 139 [.d (.raw (.int .i64 k)), .d (.raw (.int .i64 a)), .d (.raw (.int .i64 b)), .d (.raw (.int .i64 c))] (.agg ((encPV (pvJ k a b c)).map .d)) := by
 refine con_of Tryz.func139 rfl (by decide +kernel) rfl rfl (by simp [Tryz.ntmps139]) fun A hA => ?_
 rw [Tryz.ntmps139] at hA
 refine goC 300 ?_
 simp only [go_sem, hA, Tryz.results139]
structure Room (s : RS) (n : Nat) : Prop where
 le : s.td.len ≤ s.td.rows.length
 lt : s.td.len + n ≤ 1073741824
abbrev restFunP : List PV := [pvO 3, pvS ⟨#[45, 62]⟩, pvO 5, pvS ⟨#[41]⟩, pvJ 6 1 0 1]
set_option maxRecDepth 100000 in
set_option maxHeartbeats 4000000 in
theorem restFun_r (s : RS) (hs : Room s 20) : ConL Tryz.prog 128 [.box 901 0] (rdL s) (fun o => o = .ret (.tup []) (rdL (addTd s restFunP))) := by
 have hle := hs.le
 have hlt := hs.lt
 refine conL_of [901] [910, 911, 912, 913] Tryz.func128 rfl (by decide +kernel) (by simp [Tryz.ntmps128]) fun A hA => ?_
 rw [Tryz.ntmps128] at hA
 refine goC 300 ?_
 simp only [go_sem, hA]
 refine goCall 300 (only_c 3) rfl (by simp only [go_sem]) (by simp only [go_sem, hA]) ?_
 simp only [go_sem]
 refine goCall 300 (sign_c ⟨#[45, 62]⟩) rfl (by simp only [go_sem]) (by simp only [go_sem, hA]) ?_
 simp only [go_sem]
 refine goCall 300 (only_c 5) rfl (by simp only [go_sem]) (by simp only [go_sem, hA]) ?_
 simp only [go_sem]
 refine goCall 300 (sign_c ⟨#[41]⟩) rfl (by simp only [go_sem]) (by simp only [go_sem, hA]) ?_
 simp only [go_sem]
 refine goCall 300 (join_c 6 1 0 1) rfl (by simp only [go_sem]) (by simp only [go_sem, hA]) ?_
 simp only [go_sem, hA]
 refine goCallL [901] [910, 911, 912, 913] 300 (add_r s restFunP (by simp) (by simp) hle (by simp; omega)) rfl rfl rfl rfl rfl (by simp only [go_sem, hA]) (fun res L' h => ?_) (fun pv h => by cases h)
 cases h
 simp only [go_sem]
 exact ⟨.tup [], rfl, rfl, rfl⟩
abbrev restLetP : List PV := [pvO 3, pvS ⟨#[61]⟩, pvO 5, pvW ⟨#[105, 110]⟩, pvO 5, pvS ⟨#[41]⟩, pvJ 8 1 0 2]
set_option maxRecDepth 100000 in
set_option maxHeartbeats 4000000 in
theorem restLet_r (s : RS) (hs : Room s 20) : ConL Tryz.prog 129 [.box 901 0] (rdL s) (fun o => o = .ret (.tup []) (rdL (addTd s restLetP))) := by
 have hle := hs.le
 have hlt := hs.lt
 refine conL_of [901] [910, 911, 912, 913] Tryz.func129 rfl (by decide +kernel) (by simp [Tryz.ntmps129]) fun A hA => ?_
 rw [Tryz.ntmps129] at hA
 refine goC 300 ?_
 simp only [go_sem, hA]
 refine goCall 300 (only_c 3) rfl (by simp only [go_sem]) (by simp only [go_sem, hA]) ?_
 simp only [go_sem]
 refine goCall 300 (sign_c ⟨#[61]⟩) rfl (by simp only [go_sem]) (by simp only [go_sem, hA]) ?_
 simp only [go_sem]
 refine goCall 300 (only_c 5) rfl (by simp only [go_sem]) (by simp only [go_sem, hA]) ?_
 simp only [go_sem]
 refine goCall 300 (word_c ⟨#[105, 110]⟩) rfl (by simp only [go_sem]) (by simp only [go_sem, hA]) ?_
 simp only [go_sem]
 refine goCall 300 (only_c 5) rfl (by simp only [go_sem]) (by simp only [go_sem, hA]) ?_
 simp only [go_sem]
 refine goCall 300 (sign_c ⟨#[41]⟩) rfl (by simp only [go_sem]) (by simp only [go_sem, hA]) ?_
 simp only [go_sem]
 refine goCall 300 (join_c 8 1 0 2) rfl (by simp only [go_sem]) (by simp only [go_sem, hA]) ?_
 simp only [go_sem, hA]
 refine goCallL [901] [910, 911, 912, 913] 300 (add_r s restLetP (by simp) (by simp) hle (by simp; omega)) rfl rfl rfl rfl rfl (by simp only [go_sem, hA]) (fun res L' h => ?_) (fun pv h => by cases h)
 cases h
 simp only [go_sem]
 exact ⟨.tup [], rfl, rfl, rfl⟩
abbrev restIfP : List PV := [pvO 5, pvW ⟨#[116, 104, 101, 110]⟩, pvO 5, pvW ⟨#[101, 108, 115, 101]⟩, pvO 5, pvS ⟨#[41]⟩, pvJ 9 0 0 3]
set_option maxRecDepth 100000 in
set_option maxHeartbeats 4000000 in
theorem restIf_r (s : RS) (hs : Room s 20) : ConL Tryz.prog 130 [.box 901 0] (rdL s) (fun o => o = .ret (.tup []) (rdL (addTd s restIfP))) := by
 have hle := hs.le
 have hlt := hs.lt
 refine conL_of [901] [910, 911, 912, 913] Tryz.func130 rfl (by decide +kernel) (by simp [Tryz.ntmps130]) fun A hA => ?_
 rw [Tryz.ntmps130] at hA
 refine goC 300 ?_
 simp only [go_sem, hA]
 refine goCall 300 (only_c 5) rfl (by simp only [go_sem]) (by simp only [go_sem, hA]) ?_
 simp only [go_sem]
 refine goCall 300 (word_c ⟨#[116, 104, 101, 110]⟩) rfl (by simp only [go_sem]) (by simp only [go_sem, hA]) ?_
 simp only [go_sem]
 refine goCall 300 (only_c 5) rfl (by simp only [go_sem]) (by simp only [go_sem, hA]) ?_
 simp only [go_sem]
 refine goCall 300 (word_c ⟨#[101, 108, 115, 101]⟩) rfl (by simp only [go_sem]) (by simp only [go_sem, hA]) ?_
 simp only [go_sem]
 refine goCall 300 (only_c 5) rfl (by simp only [go_sem]) (by simp only [go_sem, hA]) ?_
 simp only [go_sem]
 refine goCall 300 (sign_c ⟨#[41]⟩) rfl (by simp only [go_sem]) (by simp only [go_sem, hA]) ?_
 simp only [go_sem]
 refine goCall 300 (join_c 9 0 0 3) rfl (by simp only [go_sem]) (by simp only [go_sem, hA]) ?_
 simp only [go_sem, hA]
 refine goCallL [901] [910, 911, 912, 913] 300 (add_r s restIfP (by simp) (by simp) hle (by simp; omega)) rfl rfl rfl rfl rfl (by simp only [go_sem, hA]) (fun res L' h => ?_) (fun pv h => by cases h)
 cases h
 simp only [go_sem]
 exact ⟨.tup [], rfl, rfl, rfl⟩
abbrev restCaseP : List PV := [pvO 5, pvW ⟨#[111, 102]⟩, pvW ⟨#[110, 105, 108]⟩, pvS ⟨#[45, 62]⟩, pvO 5, pvS ⟨#[124]⟩, pvO 3, pvS ⟨#[58, 58]⟩, pvO 3, pvS ⟨#[45, 62]⟩, pvO 5, pvS ⟨#[41]⟩, pvJ 13 2 0 3]
set_option maxRecDepth 100000 in
set_option maxHeartbeats 4000000 in
theorem restCase_r (s : RS) (hs : Room s 20) : ConL Tryz.prog 131 [.box 901 0] (rdL s) (fun o => o = .ret (.tup []) (rdL (addTd s restCaseP))) := by
 have hle := hs.le
 have hlt := hs.lt
 refine conL_of [901] [910, 911, 912, 913] Tryz.func131 rfl (by decide +kernel) (by simp [Tryz.ntmps131]) fun A hA => ?_
 rw [Tryz.ntmps131] at hA
 refine goC 300 ?_
 simp only [go_sem, hA]
 refine goCall 300 (only_c 5) rfl (by simp only [go_sem]) (by simp only [go_sem, hA]) ?_
 simp only [go_sem]
 refine goCall 300 (word_c ⟨#[111, 102]⟩) rfl (by simp only [go_sem]) (by simp only [go_sem, hA]) ?_
 simp only [go_sem]
 refine goCall 300 (word_c ⟨#[110, 105, 108]⟩) rfl (by simp only [go_sem]) (by simp only [go_sem, hA]) ?_
 simp only [go_sem]
 refine goCall 300 (sign_c ⟨#[45, 62]⟩) rfl (by simp only [go_sem]) (by simp only [go_sem, hA]) ?_
 simp only [go_sem]
 refine goCall 300 (only_c 5) rfl (by simp only [go_sem]) (by simp only [go_sem, hA]) ?_
 simp only [go_sem]
 refine goCall 300 (sign_c ⟨#[124]⟩) rfl (by simp only [go_sem]) (by simp only [go_sem, hA]) ?_
 simp only [go_sem]
 refine goCall 300 (only_c 3) rfl (by simp only [go_sem]) (by simp only [go_sem, hA]) ?_
 simp only [go_sem]
 refine goCall 300 (sign_c ⟨#[58, 58]⟩) rfl (by simp only [go_sem]) (by simp only [go_sem, hA]) ?_
 simp only [go_sem]
 refine goCall 300 (only_c 3) rfl (by simp only [go_sem]) (by simp only [go_sem, hA]) ?_
 simp only [go_sem]
 refine goCall 300 (sign_c ⟨#[45, 62]⟩) rfl (by simp only [go_sem]) (by simp only [go_sem, hA]) ?_
 simp only [go_sem]
 refine goCall 300 (only_c 5) rfl (by simp only [go_sem]) (by simp only [go_sem, hA]) ?_
 simp only [go_sem]
 refine goCall 300 (sign_c ⟨#[41]⟩) rfl (by simp only [go_sem]) (by simp only [go_sem, hA]) ?_
 simp only [go_sem]
 refine goCall 300 (join_c 13 2 0 3) rfl (by simp only [go_sem]) (by simp only [go_sem, hA]) ?_
 simp only [go_sem, hA]
 refine goCallL [901] [910, 911, 912, 913] 300 (add_r s restCaseP (by simp) (by simp) hle (by simp; omega)) rfl rfl rfl rfl rfl (by simp only [go_sem, hA]) (fun res L' h => ?_) (fun pv h => by cases h)
 cases h
 simp only [go_sem]
 exact ⟨.tup [], rfl, rfl, rfl⟩
abbrev restChanceP : List PV := [pvO 4, pvW ⟨#[111, 102]⟩, pvO 4, pvS ⟨#[41]⟩, pvJ 14 0 2 0]
set_option maxRecDepth 100000 in
set_option maxHeartbeats 4000000 in
theorem restChance_r (s : RS) (hs : Room s 20) : ConL Tryz.prog 132 [.box 901 0] (rdL s) (fun o => o = .ret (.tup []) (rdL (addTd s restChanceP))) := by
 have hle := hs.le
 have hlt := hs.lt
 refine conL_of [901] [910, 911, 912, 913] Tryz.func132 rfl (by decide +kernel) (by simp [Tryz.ntmps132]) fun A hA => ?_
 rw [Tryz.ntmps132] at hA
 refine goC 300 ?_
 simp only [go_sem, hA]
 refine goCall 300 (only_c 4) rfl (by simp only [go_sem]) (by simp only [go_sem, hA]) ?_
 simp only [go_sem]
 refine goCall 300 (word_c ⟨#[111, 102]⟩) rfl (by simp only [go_sem]) (by simp only [go_sem, hA]) ?_
 simp only [go_sem]
 refine goCall 300 (only_c 4) rfl (by simp only [go_sem]) (by simp only [go_sem, hA]) ?_
 simp only [go_sem]
 refine goCall 300 (sign_c ⟨#[41]⟩) rfl (by simp only [go_sem]) (by simp only [go_sem, hA]) ?_
 simp only [go_sem]
 refine goCall 300 (join_c 14 0 2 0) rfl (by simp only [go_sem]) (by simp only [go_sem, hA]) ?_
 simp only [go_sem, hA]
 refine goCallL [901] [910, 911, 912, 913] 300 (add_r s restChanceP (by simp) (by simp) hle (by simp; omega)) rfl rfl rfl rfl rfl (by simp only [go_sem, hA]) (fun res L' h => ?_) (fun pv h => by cases h)
 cases h
 simp only [go_sem]
 exact ⟨.tup [], rfl, rfl, rfl⟩
abbrev restConflictP : List PV := [pvO 5, pvS ⟨#[124, 124]⟩, pvO 5, pvS ⟨#[124, 124]⟩, pvO 5, pvS ⟨#[41]⟩, pvJ 15 0 0 3]
set_option maxRecDepth 100000 in
set_option maxHeartbeats 4000000 in
theorem restConflict_r (s : RS) (hs : Room s 20) : ConL Tryz.prog 133 [.box 901 0] (rdL s) (fun o => o = .ret (.tup []) (rdL (addTd s restConflictP))) := by
 have hle := hs.le
 have hlt := hs.lt
 refine conL_of [901] [910, 911, 912, 913] Tryz.func133 rfl (by decide +kernel) (by simp [Tryz.ntmps133]) fun A hA => ?_
 rw [Tryz.ntmps133] at hA
 refine goC 300 ?_
 simp only [go_sem, hA]
 refine goCall 300 (only_c 5) rfl (by simp only [go_sem]) (by simp only [go_sem, hA]) ?_
 simp only [go_sem]
 refine goCall 300 (sign_c ⟨#[124, 124]⟩) rfl (by simp only [go_sem]) (by simp only [go_sem, hA]) ?_
 simp only [go_sem]
 refine goCall 300 (only_c 5) rfl (by simp only [go_sem]) (by simp only [go_sem, hA]) ?_
 simp only [go_sem]
 refine goCall 300 (sign_c ⟨#[124, 124]⟩) rfl (by simp only [go_sem]) (by simp only [go_sem, hA]) ?_
 simp only [go_sem]
 refine goCall 300 (only_c 5) rfl (by simp only [go_sem]) (by simp only [go_sem, hA]) ?_
 simp only [go_sem]
 refine goCall 300 (sign_c ⟨#[41]⟩) rfl (by simp only [go_sem]) (by simp only [go_sem, hA]) ?_
 simp only [go_sem]
 refine goCall 300 (join_c 15 0 0 3) rfl (by simp only [go_sem]) (by simp only [go_sem, hA]) ?_
 simp only [go_sem, hA]
 refine goCallL [901] [910, 911, 912, 913] 300 (add_r s restConflictP (by simp) (by simp) hle (by simp; omega)) rfl rfl rfl rfl rfl (by simp only [go_sem, hA]) (fun res L' h => ?_) (fun pv h => by cases h)
 cases h
 simp only [go_sem]
 exact ⟨.tup [], rfl, rfl, rfl⟩
end
end Go.Proofs.YtnnolijagpakiaaGreatDoor
