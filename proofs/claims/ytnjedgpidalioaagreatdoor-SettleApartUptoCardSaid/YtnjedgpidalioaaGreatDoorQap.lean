/- Texts of this proof, part 16: what the proof uses of them. -/
import Derived.Test.YtnjedgpidalioaaGreatDoorQai
import Derived.Test.YtnjedgpidalioaaGreatDoorQag
import Derived.BigGuardIn
import Derived.Test.YtnjedgpidalioaaGreatDoorQaj
import Derived.Test.YtnjedgpidalioaaGreatDoorQah
import Derived.Test.YtnjedgpidalioaaGreatDoorQao
import Derived.Test.YtnjedgpidalioaaGreatDoorQak
namespace Go.Proofs.YtnjedgpidalioaaGreatDoor
section
open Go.RowKit Go.Shelf
def RowsP (W : World) (P : Nat → Prop) : List (List Ex) → List Value → Prop
 | [], [] => True
 | r :: st, y :: ys => SubP W P r y ∧ RowsP W P st ys
 | _, _ => False
theorem rowsP_length {W : World} {P : Nat → Prop} : ∀ {st : List (List Ex)} {ys : List Value}, RowsP W P st ys → ys.length = st.length
 | [], [], _ => rfl
 | r :: st, y :: ys, h => by simp [rowsP_length h.2]
 | [], y :: ys, h => h.elim
 | r :: st, [], h => h.elim
theorem rowsP_cons {W : World} {P : Nat → Prop} {r : List Ex} {st : List (List Ex)} {ys : List Value} (h : RowsP W P (r :: st) ys) : ∃ y ys', ys = y :: ys' ∧ SubP W P r y ∧ RowsP W P st ys' := by
 cases ys with
 | nil => exact h.elim
 | cons y ys => exact ⟨y, ys, rfl, h.1, h.2⟩
theorem subP_tail {W : World} {P : Nat → Prop} {e : Ex} {es : List Ex} {b off cap n : Nat} (h : SubP W P (e :: es) (.slice (some ⟨b, off, none⟩) n cap)) : SubP W P es (.slice (some ⟨b, off + 6, none⟩) es.length (cap - 1)) := by
 obtain ⟨p, cap', he, hc, hr⟩ := h
 simp only [Value.slice.injEq] at he
 obtain ⟨rfl, rfl, rfl⟩ := he
 refine ⟨_, _, rfl, by simp at hc; omega, fun hp => ?_⟩
 obtain ⟨b', off', h1, h2, h3⟩ := hr (by simp)
 simp only [Option.some.injEq, Addr.mk.injEq, and_true] at h1
 obtain ⟨rfl, rfl⟩ := h1
 exact ⟨_, _, rfl, h2, (rowP_cons.1 h3).2⟩
theorem subP_none {W : World} {P : Nat → Prop} (p : Option Addr) (cap : Nat) : SubP W P [] (.slice p 0 cap) := ⟨p, cap, rfl, by simp, fun h => by simp at h⟩
def StackP (base T : Nat) (W : World) (P : Nat → Prop) (st : List (List Ex)) (v : Value) (wr : World) : Prop :=
 ∃ g cap cur ys, v = .slice (some ⟨g, 0, none⟩) st.length cap ∧ base ≤ g ∧ wr.heap[g]? = some (.cells cur T (0, 0)) ∧ st.length ≤ cap ∧ cap ≤ maxLen ∧ cur.size = cap ∧ cur.toList.take st.length = ys.reverse ∧ RowsP W P st ys
theorem stackP_owns {base T : Nat} {P : Nat → Prop} {W wr : World} {st : List (List Ex)} {v : Value} (h : StackP base T W P st v wr) : ∃ g cap ys, v = .slice (some ⟨g, 0, none⟩) st.length cap ∧ base ≤ g ∧ wr.ownsRow base T 1 v st.length ys.reverse ∧ RowsP W P st ys := by
 obtain ⟨g, cap, cur, ys, rfl, hb, hc, h1, h2, h3, h4, h5⟩ := h
 refine ⟨g, cap, ys, rfl, hb, ⟨by simp [rowsP_length h5], .inr ⟨g, cap, cur, rfl, hb, hc, h1, h2, by omega, by simpa using h4⟩⟩, h5⟩
theorem stackP_of_owns {base T : Nat} {P : Nat → Prop} {W wr : World} {st : List (List Ex)} {ys : List Value} {v : Value} (ho : wr.ownsRow base T 1 v st.length ys.reverse) (hn : v ≠ .slice none 0 0) (hr : RowsP W P st ys) : StackP base T W P st v wr := by
 obtain ⟨_, h | ⟨g, cap, cur, rfl, hb, hc, h1, h2, h3, h4⟩⟩ := ho
 ·exact absurd h.1 hn
 ·exact ⟨g, cap, cur, ys, rfl, hb, hc, h1, h2, by omega, by simpa using h4, hr⟩
theorem stackP_keep {base T lo hi : Nat} {P : Nat → Prop} {W A B : World} {st : List (List Ex)} {v : Value} (h : StackP base T W P st v A) (hk : KeepOut lo hi A B) (hh : hi ≤ base) : StackP base T W P st v B := by
 obtain ⟨g, cap, cur, ys, rfl, hb, hc, h1⟩ := h
 exact ⟨g, cap, cur, ys, rfl, hb, hk.same g _ hc rfl (.inr (by omega)), h1⟩
theorem stackP_top {base T : Nat} {P : Nat → Prop} {W0 wr : World} {r : List Ex} {st : List (List Ex)} {v : Value} (h : StackP base T W0 P (r :: st) v wr) : ∃ g cap y, v = .slice (some ⟨g, 0, none⟩) (st.length + 1) cap ∧ base ≤ g ∧ g < wr.heap.size ∧ st.length + 1 ≤ cap ∧ cap ≤ maxLen ∧ wr.cell? ⟨g, st.length, none⟩ = some y ∧ wr.frozen? ⟨g, st.length, none⟩ = false ∧ SubP W0 P r y ∧
  StackP base T W0 P st (.slice (some ⟨g, 0, none⟩) st.length cap) wr := by
 obtain ⟨g, cap, cur, ys, rfl, hb, hc, h1, h2, h3, h4, h5⟩ := h
 obtain ⟨y, ys', rfl, hy, hr⟩ := rowsP_cons h5
 have hl := rowsP_length hr
 have h1' : st.length + 1 ≤ cap := by simpa using h1
 have hty : cur[st.length]? = some y := by
  have : (cur.toList.take (st.length + 1))[st.length]? = some y := by
   have h4' : cur.toList.take (st.length + 1) = (y :: ys').reverse := h4
   rw [h4', List.reverse_cons, List.getElem?_append_right (by simp; omega)]; simp [hl]
  rw [List.getElem?_take_of_lt (by omega)] at this
  simpa using this
 refine ⟨g, cap, y, rfl, hb, (Array.getElem?_eq_some_iff.1 hc).1, h1', h2, ?_, ?_, hy, g, cap, cur, ys', rfl, hb, hc, by omega, h2, h3, ?_, hr⟩
 ·simp [World.cell?, hc, hty]
 ·simp [World.frozen?, hc]
 ·have h4' : cur.toList.take (st.length + 1) = (y :: ys').reverse := h4
  exact take_rev h4' hl
theorem stackP_one {base T : Nat} {P : Nat → Prop} {W0 W3 : World} {sub : List Ex} {sv : Value} (hs : SubP W0 P sub sv) (hz : base ≤ W3.heap.size) : StackP base T W0 P [sub] (.slice (some ⟨W3.heap.size, 0, none⟩) 1 1) (W3.alloc (.cells #[sv] T)) :=
 ⟨W3.heap.size, 1, #[sv], [sv], rfl, hz, World.alloc_heap_new _ _, Nat.le_refl _, by unfold maxLen; omega, rfl, rfl, hs, trivial⟩
theorem stackP_set {base T : Nat} {P : Nat → Prop} {W0 wr : World} {r r' : List Ex} {st : List (List Ex)} {g cap n : Nat} {y : Value} (h : StackP base T W0 P (r :: st) (.slice (some ⟨g, 0, none⟩) n cap) wr) (hy : SubP W0 P r' y) : StackP base T W0 P (r' :: st) (.slice (some ⟨g, 0, none⟩) (st.length + 1) cap) (wr.setCell ⟨g, st.length, none⟩ y) := by
 obtain ⟨g', cap', cur, ys, he, hb, hc, h1, h2, h3, h4, h5⟩ := h
 simp only [Value.slice.injEq, Option.some.injEq, Addr.mk.injEq, and_true] at he
 obtain ⟨rfl, -, rfl⟩ := he
 obtain ⟨y0, ys', rfl, hy0, hr⟩ := rowsP_cons h5
 have hl := rowsP_length hr
 have h1' : st.length + 1 ≤ cap := by simpa using h1
 refine ⟨g, cap, cur.setIfInBounds st.length y, y :: ys', by simp, hb, ?_, h1, h2, by simpa using h3, ?_, hy, hr⟩
 ·have hlt := (Array.getElem?_eq_some_iff.1 hc).1
  have hb := (Array.getElem?_eq_some_iff.1 hc).2
  simp [World.setCell, Array.getElem_modify, hlt, hb]
 ·have h4' : cur.toList.take (st.length + 1) = (y0 :: ys').reverse := h4
  have e1 : cur.toList.take st.length = ys'.reverse := take_rev h4' hl
  show (cur.setIfInBounds st.length y).toList.take (st.length + 1) = (y :: ys').reverse
  rw [List.take_succ_eq_append_getElem (by simp; omega)]
  simp [e1, List.take_set_of_le]
theorem stackP_alloc {base T : Nat} {P : Nat → Prop} {W0 wr : World} {st : List (List Ex)} {v : Value} (h : StackP base T W0 P st v wr) (o : Obj) : StackP base T W0 P st v (wr.alloc o) := by
 obtain ⟨g, cap, cur, ys, rfl, hb, hc, h1⟩ := h
 exact ⟨g, cap, cur, ys, rfl, hb, (Below.heap_alloc _ _ _ (Array.getElem?_eq_some_iff.1 hc).1).trans hc, h1⟩
theorem rowP_head {W0 wr : World} {P : Nat → Prop} {e : Ex} {es : List Ex} {y : Value} (h : SubP W0 P (e :: es) y) (hl : StayP P W0 wr) : ∃ b off cy cv, y = .slice (some ⟨b, off, none⟩) (es.length + 1) cy ∧ es.length + 1 ≤ cy ∧ P b ∧ wr.cell? ⟨b, off, none⟩ = some (.int .i64 e.kind) ∧ wr.cell? ⟨b, off + 1, none⟩ = some (.string e.name) ∧ wr.cell? ⟨b, off + 2, none⟩ = some (.string e.more) ∧ wr.cell? ⟨b, off + 3, none⟩ = some (.int .i64 e.int) ∧
  wr.cell? ⟨b, off + 4, none⟩ = some (.int .i64 e.den) ∧ wr.cell? ⟨b, off + 5, none⟩ = some cv ∧ SubP W0 P e.sub cv := by
 obtain ⟨p, cap, rfl, hc, hr⟩ := h
 obtain ⟨b, off, rfl, hb, hrow⟩ := hr (by simp)
 obtain ⟨cv, h0, h1, h2, h3, h4, h5, h6⟩ := (rowP_cons.1 hrow).1
 exact ⟨b, off, cap, cv, rfl, by simpa using hc, hb, hl _ _ hb _ h0, hl _ _ hb _ h1, hl _ _ hb _ h2, hl _ _ hb _ h3, hl _ _ hb _ h4, hl _ _ hb _ h5, h6⟩
theorem stackP_push {base T : Nat} {P : Nat → Prop} {W0 w6 : World} {e : Ex} {es : List Ex} {st : List (List Ex)} {ys : List Value} {v' cv : Value} {L : Nat} (hL : st.length = L) (ho : w6.ownsRow base T 1 v' (L + 1 + 1) (ys.reverse ++ [cv])) (hn : v' ≠ .slice none 0 0) (hr : RowsP W0 P (es :: st) ys) (hc : SubP W0 P e.sub cv) :
  StackP base T W0 P (e.sub :: es :: st) v' w6 := by
 refine stackP_of_owns (ys := cv :: ys) ?_ hn ⟨hc, hr⟩
 rw [List.reverse_cons, List.length_cons, List.length_cons, hL]
 exact ho
theorem StayP.keep {lo hi : Nat} {P : Nat → Prop} {W A B : World} (h : StayP P W A) (hk : KeepOut lo hi A B) (hP : ∀ b, P b → b < lo ∨ hi ≤ b) : StayP P W B := fun b off hb v hv => keepOut_cell hk (h b off hb v hv) (hP b hb)
theorem StayP.step {base : Nat} {P : Nat → Prop} {W A B : World} (h : StayP P W A) (hk : ItStep base A B) (hP : ∀ b, P b → b < base) : StayP P W B := fun b off hb v hv => (hk.below.cell (p := ⟨b, off, none⟩) (hP b hb)).trans (h b off hb v hv)
theorem ItStep.mono {a b : Nat} {A B : World} (h : ItStep b A B) (hab : a ≤ b) : ItStep a A B := ⟨h.below.mono hab, h.others⟩
def isSum (x : Nat × Ex) : Bool := x.2.kind == 15
def ConfAll (t : Ex) (xs : List (ItN)) : Prop := xs.map projN = (preE 2 t).filter isSum
def ConfPre (t : Ex) (xs : List (ItN)) : Prop := xs.map projN <+: (preE 2 t).filter isSum
def ConfRel (base T : Nat) (P : Nat → Prop) (W0 : World) (t : Ex) (J : List (ItN) → World → Prop) (m : Nat) (v : Value) (wr : World) : Prop :=
 ∃ vis pre st, StackP base T W0 P st v wr ∧ J pre wr ∧ StayP P W0 wr ∧ base ≤ wr.heap.size ∧ st.length ≤ vis.length + 1 ∧ vis ++ restL st = preE 2 t ∧ pre.map projN = vis.filter isSum ∧ m = 2 * (restL st).length + st.length
mutual
theorem confE_pre : ∀ (d : Nat) (t : Ex), ((preE d t).filter isSum).length = confE t
 | d, .mk k n m i dn s => by
  have h := confL_pre (d + 1) s
  simp only [preE, confE, List.filter_cons, isSum, Ex.kind]
  by_cases hk : k = 15
  ·simp [hk, h]; omega
  ·simp [hk, ← h]
theorem confL_pre : ∀ (d : Nat) (l : List Ex), ((preL d l).filter isSum).length = confL l
 | d, [] => by simp [preL, confL]
 | d, e :: es => by simp [preL, confL, confE_pre d e, confL_pre d es]
end
theorem conf_one {W : World} {k : Int} {nm mr : ByteArray} {it d : Int} {sub : List Ex} {p : Option Addr} {cap lo : Nat} {T : TypeId} (h : SubAt W lo sub (.slice p sub.length cap)) (hl : lo ≤ W.heap.size) :
  SubP (W.alloc (.cells #[.int .i64 k, .string nm, .string mr, .int .i64 it, .int .i64 d, .slice p sub.length cap] T)) (fun b => b < lo ∨ b = W.heap.size) [.mk k nm mr it d sub] (.slice (some ⟨W.heap.size, 0, none⟩) 1 1) := by
 refine ⟨_, 1, rfl, Nat.le_refl _, fun _ => ⟨W.heap.size, 0, rfl, .inr rfl, rowP_cons.2 ⟨⟨_, ?_, ?_, ?_, ?_, ?_, ?_, subP_stay (fun _ h => .inl h) (stay_below ((Below.refl _ _).alloc (Nat.le_refl _) _) (fun b hb => by omega)) (subP_of h)⟩, rowP_nil⟩⟩⟩ <;> simp [go_sem, Ex.kind, Ex.name, Ex.more, Ex.int, Ex.den]
end
section
open Go.RowKit Go.Shelf
attribute [local go_sem] Oper.semAt_some
set_option maxRecDepth 100000 in
set_option maxHeartbeats 4000000 in
theorem conf1_in (n l be lo hi : Nat) (hn1 : 1 ≤ n) (k : Int) (nm mr : ByteArray) (it d : Int) (sub : List Ex) (p : Option Addr) (cap : Nat) (W : World)
  (hs : SubAt W lo sub (.slice p sub.length cap)) (hlh : lo ≤ hi) (hhb : hi ≤ be) (hbe : W.heap[be]? = some (.cells #[.int .i64 k, .string nm, .string mr, .int .i64 it, .int .i64 d, .slice p sub.length cap] 98 (0, 0))) (hm : nodesL sub ≤ 1048576)
  (J Jx : List (ItN) → World → Prop) (hJ : ∀ pre A B, J pre A → ItStep W.heap.size A B → J pre B)
  (hY : ∀ pre x A, J pre A → pre.length ≤ 1048577 → YieldAt Fence.wide (n - 1) Tryz.prog l #[valN x] A fun e B =>
   (e = .returned (.bool true) ∧ J (pre ++ [x]) B ∧ KeepOut lo hi A B) ∨ (e = .returned (.bool false) ∧ Jx (pre ++ [x]) B)) (h0 : J [] W) :
  CallsIn Fence.wide n Tryz.prog 174 #[.func (.yield l) #[] #[], .pointer (some ⟨be, 0, none⟩)] W fun e B => (∃ v, e = .returned v) ∧
   ((∃ xs, ConfAll (.mk k nm mr it d sub) xs ∧ J xs B) ∨ (∃ pre, ConfPre (.mk k nm mr it d sub) pre ∧ Jx pre B)) := by
 obtain ⟨i0, hi0, hz0, hz1, hz2⟩ := info_parts infoExprs
 have hbl := (Array.getElem?_eq_some_iff.1 hbe).1
 have c0 : W.cell? ⟨be, 0, none⟩ = some (.int .i64 k) := by simp [World.cell?, hbe]
 have c1 : W.cell? ⟨be, 1, none⟩ = some (.string nm) := by simp [World.cell?, hbe]
 have c2 : W.cell? ⟨be, 2, none⟩ = some (.string mr) := by simp [World.cell?, hbe]
 have c3 : W.cell? ⟨be, 3, none⟩ = some (.int .i64 it) := by simp [World.cell?, hbe]
 have c4 : W.cell? ⟨be, 4, none⟩ = some (.int .i64 d) := by simp [World.cell?, hbe]
 have c5 : W.cell? ⟨be, 5, none⟩ = some (.slice p sub.length cap) := by simp [World.cell?, hbe]
 have hlo : lo ≤ W.heap.size := by omega
 have HPB : Hid (∀ b, (b < lo ∨ b = W.heap.size) → b < W.heap.size + 1) := Lib.hid (fun b h => by omega)
 have HPO : Hid (∀ b, (b < lo ∨ b = W.heap.size) → b < lo ∨ hi ≤ b) := Lib.hid (fun b h => by omega)
 obtain ⟨W1, hW1⟩ : ∃ W1, W.alloc (.cells #[.int .i64 k, .string nm, .string mr, .int .i64 it, .int .i64 d, .slice p sub.length cap] 98) = W1 := ⟨_, rfl⟩
 have hsz1 : W1.heap.size = W.heap.size + 1 := by rw [← hW1]; simp
 have HONE : Hid (SubP W1 (fun b => b < lo ∨ b = W.heap.size) [.mk k nm mr it d sub] (.slice (some ⟨W.heap.size, 0, none⟩) 1 1)) := Lib.hid (by rw [← hW1]; exact conf_one hs hlo)
 have HI1 : Hid (ItStep W.heap.size W W1) := Lib.hid (by rw [← hW1]; exact (ItStep.refl _ _).alloc (Nat.le_refl _) _)
 have HZ1 := Lib.hid hsz1
 have HW1 := Lib.hid hW1
 clear hbe hs hW1 hsz1
 refine callsIn_of_wp Tryz.func174 rfl trivial ?_ rfl
 simp only [Tryz.ntmps174, List.size_toArray, List.length_cons, List.length_nil, Nat.reduceAdd, Nat.reduceSub, Array.replicate_succ, Array.replicate_zero, List.push_toArray, List.append_toArray, List.nil_append, List.cons_append]
 have HST : Hid (StackP (W.heap.size + 1) 96 W1 (fun b => b < lo ∨ b = W.heap.size) [[.mk k nm mr it d sub]] (.slice (some ⟨W.heap.size + 1, 0, none⟩) 1 1) (W1.alloc (Obj.cells #[Value.slice (some ⟨W.heap.size, 0, none⟩) 1 1] 96))) := Lib.hid (by rw [← HZ1.out]; exact stackP_one HONE.out (by rw [HZ1.out]; omega))
 have HI2 : Hid (ItStep W.heap.size W (W1.alloc (Obj.cells #[Value.slice (some ⟨W.heap.size, 0, none⟩) 1 1] 96))) := Lib.hid (HI1.out.alloc (by rw [HZ1.out]; omega) _)
 have HJ4 := Lib.hid (hJ _ _ _ h0 HI2.out)
 have HL4 : Hid (StayP (fun b => b < lo ∨ b = W.heap.size) W1 (W1.alloc (Obj.cells #[Value.slice (some ⟨W.heap.size, 0, none⟩) 1 1] 96))) := Lib.hid (stay_below ((Below.refl _ _).alloc (Nat.le_refl _) _) (fun b hb => by have := HPB.out b hb; rw [HZ1.out]; exact this))
 have hzs : W.heap.size + 1 ≤ (W1.alloc (Obj.cells #[Value.slice (some ⟨W.heap.size, 0, none⟩) 1 1] 96)).heap.size := by simp [HZ1.out]
 gi_wp2_with fail
 rw [HW1.out]
 generalize (W1.alloc (Obj.cells #[Value.slice (some ⟨W.heap.size, 0, none⟩) 1 1] 96)) = W4 at *
 clear c0 c1 c2 c3 c4 c5 HI2 HI1
 gi_loopw [3] (fun v wr => ∃ m, ConfRel (W.heap.size + 1) 96 (fun b => b < lo ∨ b = W.heap.size) W1 (.mk k nm mr it d sub) J m v wr) (fun v wr => leastOf (fun m => ConfRel (W.heap.size + 1) 96 (fun b => b < lo ∨ b = W.heap.size) W1 (.mk k nm mr it d sub) J m v wr))
 case atStart => exact ⟨_, [], [], _, HST.out, HJ4.out, HL4.out, hzs, by simp, by simp [restL, preL], by simp, rfl⟩
 case round =>
  obtain ⟨hrel1, hleast⟩ := leastOf_spec hrel
  obtain ⟨M, hM⟩ : ∃ M, leastOf (fun m => ConfRel (W.heap.size + 1) 96 (fun b => b < lo ∨ b = W.heap.size) W1 (.mk k nm mr it d sub) J m u3 wr) = M := ⟨_, rfl⟩
  rw [hM] at hrel1
  obtain ⟨vis, pre, st, hst, hJr, hlr, hbz, hpl, hpre, hvp, hm'⟩ := hrel1
  have HPRE := Lib.hid hpre
  have HVP := Lib.hid hvp
  have HLR := Lib.hid hlr
  have HMM := Lib.hid hm'
  have HMQ := Lib.hid hM
  have HLE := Lib.hid hleast
  clear hpre hvp hlr hm' hM hleast hrel HST HJ4 HL4
  cases st with
  | nil =>
   obtain ⟨g, cp, _, rfl, _, _, _⟩ := stackP_owns hst
   gi_wp2_with fail
   go_end0
   exact ⟨⟨_, rfl⟩, .inl ⟨pre, by unfold ConfAll; rw [← HPRE.out, HVP.out]; simp [restL], hJr⟩⟩
  | cons r st =>
   obtain ⟨g, cp, y, rfl, hg1, hg2, hg3, hg4, hcy, hfy, hy, hst'⟩ := stackP_top hst
   have HST := Lib.hid hst
   have HST' := Lib.hid hst'
   clear hst hst'
   have hpl' : st.length ≤ vis.length := by simpa using hpl
   have hpn : vis.length ≤ 1048577 := by
    have h1 := congrArg List.length HPRE.out
    rw [preE_length, List.length_append] at h1
    simp only [nodesE] at h1; omega
   clear hpl
   obtain ⟨L, hL⟩ : ∃ L, st.length = L := ⟨_, rfl⟩
   rw [hL] at hcy hfy hg3 hpl' HST' HMQ
   unfold maxLen at hg4
   cases r with
   | nil =>
    obtain ⟨py, cy, rfl, _, _⟩ := hy
    rw [hL]
    gi_wp2_with fail
    go_roundw
    case rel => exact ⟨_, vis, pre, st, HST'.out, hJr, HLR.out, hbz, by omega, by rw [← restL_pop]; exact HPRE.out, HVP.out, rfl⟩
    case measure =>
     have hMv := HMM.out
     rw [restL_pop, List.length_cons] at hMv
     rw [HMQ.out]
     exact least_lt (m := 2 * (restL st).length + st.length) ⟨vis, pre, st, HST'.out, hJr, HLR.out, hbz, by omega, by rw [← restL_pop]; exact HPRE.out, HVP.out, rfl⟩ (by omega)
   | cons e es =>
    obtain ⟨b, off, cy, cv, rfl, hcy2, hblo, g0, g1, g2, g3, g4, g5, hsub⟩ := rowP_head hy HLR.out
    have hblo' : b < W.heap.size + 1 := HPB.out b hblo
    have HSUB := Lib.hid hsub
    obtain ⟨pc, cc, rfl, _, _⟩ := hsub
    have HTL := Lib.hid (subP_tail hy)
    have hbg : b ≠ g := by omega
    have hgw : g ≠ wr.heap.size := by omega
    have hbw : b ≠ wr.heap.size := by omega
    have hblt : b < wr.heap.size := by omega
    have q0 : (0 : Int) ≤ (L : Int) := by omega
    have q1 : (L : Int) < (cp : Int) := by omega
    have HREL := Lib.hid (restL_push e es st)
    rw [hL] at HREL
    clear hy hblo
    by_cases hc1 : cy = 1
    ·subst hc1
     obtain rfl : es = [] := by cases es with | nil => rfl | cons a r => simp at hcy2
     have HTL' : Hid (SubP W1 (fun b => b < lo ∨ b = W.heap.size) [] (.slice (some ⟨b, off, none⟩) 0 0)) := Lib.hid (subP_none _ _)
     have HA : Hid (ItStep (W.heap.size + 1) wr ((wr.setCell ⟨g, L, none⟩ (.slice (some ⟨b, off, none⟩) 0 0)).alloc (.cells #[.int .i64 e.kind, .string e.name, .string e.more, .int .i64 e.int, .int .i64 e.den, .slice pc e.sub.length cc] 98))) := Lib.hid (((ItStep.refl _ _).setCell (p := ⟨g, L, none⟩) hg1 _).alloc (by simpa [World.setCell] using hbz) _)
     have HSA : Hid (StackP (W.heap.size + 1) 96 W1 (fun b => b < lo ∨ b = W.heap.size) ([] :: st) (.slice (some ⟨g, 0, none⟩) (L + 1) cp) ((wr.setCell ⟨g, L, none⟩ (.slice (some ⟨b, off, none⟩) 0 0)).alloc (.cells #[.int .i64 e.kind, .string e.name, .string e.more, .int .i64 e.int, .int .i64 e.den, .slice pc e.sub.length cc] 98))) := Lib.hid (by have h1 := stackP_alloc (stackP_set HST.out HTL'.out) (.cells #[.int .i64 e.kind, .string e.name, .string e.more, .int .i64 e.int, .int .i64 e.den, .slice pc e.sub.length cc] 98); rw [hL] at h1; exact h1)
     have HCA : Hid (((wr.setCell ⟨g, L, none⟩ (.slice (some ⟨b, off, none⟩) 0 0)).alloc (.cells #[.int .i64 e.kind, .string e.name, .string e.more, .int .i64 e.int, .int .i64 e.den, .slice pc e.sub.length cc] 98)).cell? ⟨wr.heap.size, 5, none⟩ = some (.slice pc e.sub.length cc)) := Lib.hid (by simp [go_sem])
     have HCZ := Lib.hid (show ((wr.setCell ⟨g, L, none⟩ (.slice (some ⟨b, off, none⟩) 0 0)).alloc (.cells #[.int .i64 e.kind, .string e.name, .string e.more, .int .i64 e.int, .int .i64 e.den, .slice pc e.sub.length cc] 98)).cell? ⟨wr.heap.size, 0, none⟩ = some (.int .i64 e.kind) ∧ ((wr.setCell ⟨g, L, none⟩ (.slice (some ⟨b, off, none⟩) 0 0)).alloc (.cells #[.int .i64 e.kind, .string e.name, .string e.more, .int .i64 e.int, .int .i64 e.den, .slice pc e.sub.length cc] 98)).cell? ⟨wr.heap.size, 1, none⟩ = some (.string e.name) ∧ ((wr.setCell ⟨g, L, none⟩ (.slice (some ⟨b, off, none⟩) 0 0)).alloc (.cells #[.int .i64 e.kind, .string e.name, .string e.more, .int .i64 e.int, .int .i64 e.den, .slice pc e.sub.length cc] 98)).cell? ⟨wr.heap.size, 2, none⟩ = some (.string e.more) ∧ ((wr.setCell ⟨g, L, none⟩ (.slice (some ⟨b, off, none⟩) 0 0)).alloc (.cells #[.int .i64 e.kind, .string e.name, .string e.more, .int .i64 e.int, .int .i64 e.den, .slice pc e.sub.length cc] 98)).cell? ⟨wr.heap.size, 3, none⟩ = some (.int .i64 e.int) ∧ ((wr.setCell ⟨g, L, none⟩ (.slice (some ⟨b, off, none⟩) 0 0)).alloc (.cells #[.int .i64 e.kind, .string e.name, .string e.more, .int .i64 e.int, .int .i64 e.den, .slice pc e.sub.length cc] 98)).cell? ⟨wr.heap.size, 4, none⟩ = some (.int .i64 e.den) by simp [go_sem])
     have hsa : wr.heap.size < ((wr.setCell ⟨g, L, none⟩ (.slice (some ⟨b, off, none⟩) 0 0)).alloc (.cells #[.int .i64 e.kind, .string e.name, .string e.more, .int .i64 e.int, .int .i64 e.den, .slice pc e.sub.length cc] 98)).heap.size := by simp [World.setCell]
     by_cases hk15 : e.kind = 15
     ·have hkt : (e.kind == 15) = true := by simpa using hk15
      have HK := Lib.hid hk15
      clear hk15
      obtain ⟨fn, tmps, assign, body, hy, hR⟩ := hY pre (L + 2, e, pc, cc) _ (hJ _ _ _ hJr (HA.out.mono (by omega))) (by have h1 := congrArg List.length HVP.out; have h2 := List.length_filter_le isSum vis; rw [List.length_map] at h1; omega)
      replace hy : (Instr.yield l #[.agg #[.int .i64 e.kind, .string e.name, .string e.more, .int .i64 e.int, .int .i64 e.den, .slice pc e.sub.length cc]]).run Tryz.prog ((wr.setCell ⟨g, L, none⟩ (.slice (some ⟨b, off, none⟩) 0 0)).alloc (.cells #[.int .i64 e.kind, .string e.name, .string e.more, .int .i64 e.int, .int .i64 e.den, .slice pc e.sub.length cc] 98)) = .ok (.round l fn tmps assign body) ((wr.setCell ⟨g, L, none⟩ (.slice (some ⟨b, off, none⟩) 0 0)).alloc (.cells #[.int .i64 e.kind, .string e.name, .string e.more, .int .i64 e.int, .int .i64 e.den, .slice pc e.sub.length cc] 98)) := hy
      rw [hL]
      gi_wp2_with fail
      generalize (wr.setCell ⟨g, L, none⟩ (.slice (some ⟨b, off, none⟩) 0 0)).alloc (.cells #[.int .i64 e.kind, .string e.name, .string e.more, .int .i64 e.int, .int .i64 e.den, .slice pc e.sub.length cc] 98) = A at *
      clear g0 g1 g2 g3 g4 g5 hcy hfy
      refine hR.mono ?_
      rintro e5 W5 (⟨rfl, hJ5, hk5⟩ | ⟨rfl, hJx5⟩)
      ·have d5 := keepOut_cell hk5 HCA.out (.inr (by show hi ≤ wr.heap.size; omega))
       have HS5 := Lib.hid (stackP_keep HSA.out hk5 (by omega))
       have hz5 := hk5.size
       have HL5 := Lib.hid ((HLR.out.step HA.out HPB.out).keep hk5 HPO.out)
       have hb5 : W.heap.size + 1 ≤ W5.heap.size := by omega
       clear hy hR
       obtain ⟨g5, cp5, cur5, ys5, hv5, hgb5, hcur5, _⟩ := id HS5.out
       simp only [Value.slice.injEq, Option.some.injEq, Addr.mk.injEq, and_true] at hv5
       obtain ⟨rfl, -, rfl⟩ := hv5
       obtain ⟨g6, cp6, ys, hv6, hgb6, hown, hrows⟩ := stackP_owns HS5.out
       have HROWS := Lib.hid hrows
       have HCUR := Lib.hid hcur5
       rw [List.length_cons, hL] at hown
       clear hv6 hrows hcur5
       gi_wp2_with (first
        | (gi_at_builtin; refine wpListIn_append_own _ rfl _ _ 237 rfl (W.heap.size + 1) 96 i0 _ 1 24 Tryz.underlying237 hi0 hz0 hz1 hz2 rfl (by decide) _ _ _ rfl (hown.alloc _) ⟨W5.heap.size, 0, none⟩ 1 1 [.slice pc e.sub.length cc] rfl rfl ?c1_1 ?c1_2 ?c1_3 ?c1_4 ?c1_5 ?_))
       case c1_1 => exact cell1_at _ _ _
       case c1_2 => intro u hu; simp at hu; subst hu; rfl
       case c1_3 => unfold maxLen; omega
       case c1_4 => omega
       case c1_5 => simp; omega
       intro v' w6 hown6 hgrow hne
       have hvn : v' ≠ .slice none 0 0 := hne
       have HST6 := Lib.hid (stackP_push hL hown6 hvn HROWS.out HSUB.out)
       have HI6 : Hid (ItStep (W.heap.size + 1) W5 w6) := Lib.hid (((ItStep.refl _ _).alloc hb5 _).grown hgrow hgb5 (by simp; omega) ((Below.heap_alloc _ _ _ (Array.getElem?_eq_some_iff.1 HCUR.out).1).trans HCUR.out))
       have hz6 := HI6.out.others.size
       have HJ6 := Lib.hid (hJ _ _ _ hJ5 (HI6.out.mono (by omega)))
       have HL6 := Lib.hid (HL5.out.step HI6.out HPB.out)
       have hM6 : 2 * (restL (e.sub :: [] :: st)).length + (e.sub :: [] :: st).length < M := by
        have h1 := HMM.out
        have h2 := congrArg List.length HREL.out
        simp only [List.length_cons] at h1 h2 ⊢
        omega
       have HR6 : Hid (ConfRel (W.heap.size + 1) 96 (fun b => b < lo ∨ b = W.heap.size) W1 (.mk k nm mr it d sub) J (2 * (restL (e.sub :: [] :: st)).length + (e.sub :: [] :: st).length) v' w6) := Lib.hid ⟨vis ++ [(L + 2, e)], pre ++ [(L + 2, e, pc, cc)], _, HST6.out, HJ6.out, HL6.out, by omega, by simp; omega, by
        rw [← HPRE.out, HREL.out]; simp, by simp [HVP.out, List.filter_append, isSum, HK.out, projN], rfl⟩
       clear hown hown6 hgrow hne d5
       gi_wp2_with fail
       go_roundw
       case rel => exact ⟨_, HR6.out⟩
       case measure =>
        rw [HMQ.out]
        exact least_lt HR6.out hM6
      ·gi_wp2_with fail
       refine bodyPost_ret (results_none rfl _ _ _) rfl ?_
       exact ⟨⟨_, rfl⟩, .inr ⟨_, ⟨(restL (e.sub :: [] :: st)).filter isSum, by rw [← HPRE.out, HREL.out]; simp [HVP.out, List.filter_append, isSum, HK.out, projN]⟩, hJx5⟩⟩
     ·have hkt : (e.kind == 15) = false := by simpa using hk15
      have HK := Lib.hid hk15
      clear hk15
      have hJ5 := hJ _ _ _ hJr (HA.out.mono (by omega))
      have HS5 := HSA
      have HL5 := Lib.hid (HLR.out.step HA.out HPB.out)
      have hb5 : W.heap.size + 1 ≤ ((wr.setCell ⟨g, L, none⟩ (.slice (some ⟨b, off, none⟩) 0 0)).alloc (.cells #[.int .i64 e.kind, .string e.name, .string e.more, .int .i64 e.int, .int .i64 e.den, .slice pc e.sub.length cc] 98)).heap.size := by omega
      rw [hL]
      have d5 := HCA.out
      obtain ⟨g5, cp5, cur5, ys5, hv5, hgb5, hcur5, _⟩ := id HS5.out
      simp only [Value.slice.injEq, Option.some.injEq, Addr.mk.injEq, and_true] at hv5
      obtain ⟨rfl, -, rfl⟩ := hv5
      obtain ⟨g6, cp6, ys, hv6, hgb6, hown, hrows⟩ := stackP_owns HS5.out
      have HROWS := Lib.hid hrows
      have HCUR := Lib.hid hcur5
      rw [List.length_cons, hL] at hown
      clear hv6 hrows hcur5
      gi_wp2_with fail
      refine ⟨by simp, ?_⟩
      gi_wp2_with (first
       | (gi_at_builtin; refine wpListIn_append_own _ rfl _ _ 237 rfl (W.heap.size + 1) 96 i0 _ 1 24 Tryz.underlying237 hi0 hz0 hz1 hz2 rfl (by decide) _ _ _ rfl (hown.alloc _) ⟨wr.heap.size + 1, 0, none⟩ 1 1 [.slice pc e.sub.length cc] rfl rfl ?c2_1 ?c2_2 ?c2_3 ?c2_4 ?c2_5 ?_))
      case c2_1 => rw [show wr.heap.size + 1 = ((wr.setCell ⟨g, L, none⟩ (.slice (some ⟨b, off, none⟩) 0 0)).alloc (.cells #[.int .i64 e.kind, .string e.name, .string e.more, .int .i64 e.int, .int .i64 e.den, .slice pc e.sub.length cc] 98)).heap.size by simp [World.setCell]]; exact cell1_at _ _ _
      case c2_2 => intro u hu; simp at hu; subst hu; rfl
      case c2_3 => unfold maxLen; omega
      case c2_4 => omega
      case c2_5 => simp; omega
      intro v' w6 hown6 hgrow hne
      have hvn : v' ≠ .slice none 0 0 := hne
      have HST6 := Lib.hid (stackP_push hL hown6 hvn HROWS.out HSUB.out)
      have HI6 : Hid (ItStep (W.heap.size + 1) ((wr.setCell ⟨g, L, none⟩ (.slice (some ⟨b, off, none⟩) 0 0)).alloc (.cells #[.int .i64 e.kind, .string e.name, .string e.more, .int .i64 e.int, .int .i64 e.den, .slice pc e.sub.length cc] 98)) w6) := Lib.hid (((ItStep.refl _ _).alloc hb5 _).grown hgrow hgb5 (by simp; omega) ((Below.heap_alloc _ _ _ (Array.getElem?_eq_some_iff.1 HCUR.out).1).trans HCUR.out))
      have hz6 := HI6.out.others.size
      have HJ6 := Lib.hid (hJ _ _ _ hJ5 (HI6.out.mono (by omega)))
      have HL6 := Lib.hid (HL5.out.step HI6.out HPB.out)
      have hM6 : 2 * (restL (e.sub :: [] :: st)).length + (e.sub :: [] :: st).length < M := by
       have h1 := HMM.out
       have h2 := congrArg List.length HREL.out
       simp only [List.length_cons] at h1 h2 ⊢
       omega
      have HR6 : Hid (ConfRel (W.heap.size + 1) 96 (fun b => b < lo ∨ b = W.heap.size) W1 (.mk k nm mr it d sub) J (2 * (restL (e.sub :: [] :: st)).length + (e.sub :: [] :: st).length) v' w6) := Lib.hid ⟨vis ++ [(L + 2, e)], pre, _, HST6.out, HJ6.out, HL6.out, by omega, by simp; omega, by
       rw [← HPRE.out, HREL.out]; simp, by simp [HVP.out, List.filter_append, isSum, HK.out], rfl⟩
      clear hown hown6 hgrow hne d5
      gi_wp2_with fail
      go_roundw
      case rel => exact ⟨_, HR6.out⟩
      case measure =>
       rw [HMQ.out]
       exact least_lt HR6.out hM6
    ·have HTL' := Lib.hid HTL.out
     have hc2 : (cy == 1) = false := by simpa using hc1
     have HA : Hid (ItStep (W.heap.size + 1) wr ((wr.setCell ⟨g, L, none⟩ (.slice (some ⟨b, off + 6, none⟩) es.length (cy - 1))).alloc (.cells #[.int .i64 e.kind, .string e.name, .string e.more, .int .i64 e.int, .int .i64 e.den, .slice pc e.sub.length cc] 98))) := Lib.hid (((ItStep.refl _ _).setCell (p := ⟨g, L, none⟩) hg1 _).alloc (by simpa [World.setCell] using hbz) _)
     have HSA : Hid (StackP (W.heap.size + 1) 96 W1 (fun b => b < lo ∨ b = W.heap.size) (es :: st) (.slice (some ⟨g, 0, none⟩) (L + 1) cp) ((wr.setCell ⟨g, L, none⟩ (.slice (some ⟨b, off + 6, none⟩) es.length (cy - 1))).alloc (.cells #[.int .i64 e.kind, .string e.name, .string e.more, .int .i64 e.int, .int .i64 e.den, .slice pc e.sub.length cc] 98))) := Lib.hid (by have h1 := stackP_alloc (stackP_set HST.out HTL'.out) (.cells #[.int .i64 e.kind, .string e.name, .string e.more, .int .i64 e.int, .int .i64 e.den, .slice pc e.sub.length cc] 98); rw [hL] at h1; exact h1)
     have HCA : Hid (((wr.setCell ⟨g, L, none⟩ (.slice (some ⟨b, off + 6, none⟩) es.length (cy - 1))).alloc (.cells #[.int .i64 e.kind, .string e.name, .string e.more, .int .i64 e.int, .int .i64 e.den, .slice pc e.sub.length cc] 98)).cell? ⟨wr.heap.size, 5, none⟩ = some (.slice pc e.sub.length cc)) := Lib.hid (by simp [go_sem])
     have HCZ := Lib.hid (show ((wr.setCell ⟨g, L, none⟩ (.slice (some ⟨b, off + 6, none⟩) es.length (cy - 1))).alloc (.cells #[.int .i64 e.kind, .string e.name, .string e.more, .int .i64 e.int, .int .i64 e.den, .slice pc e.sub.length cc] 98)).cell? ⟨wr.heap.size, 0, none⟩ = some (.int .i64 e.kind) ∧ ((wr.setCell ⟨g, L, none⟩ (.slice (some ⟨b, off + 6, none⟩) es.length (cy - 1))).alloc (.cells #[.int .i64 e.kind, .string e.name, .string e.more, .int .i64 e.int, .int .i64 e.den, .slice pc e.sub.length cc] 98)).cell? ⟨wr.heap.size, 1, none⟩ = some (.string e.name) ∧ ((wr.setCell ⟨g, L, none⟩ (.slice (some ⟨b, off + 6, none⟩) es.length (cy - 1))).alloc (.cells #[.int .i64 e.kind, .string e.name, .string e.more, .int .i64 e.int, .int .i64 e.den, .slice pc e.sub.length cc] 98)).cell? ⟨wr.heap.size, 2, none⟩ = some (.string e.more) ∧ ((wr.setCell ⟨g, L, none⟩ (.slice (some ⟨b, off + 6, none⟩) es.length (cy - 1))).alloc (.cells #[.int .i64 e.kind, .string e.name, .string e.more, .int .i64 e.int, .int .i64 e.den, .slice pc e.sub.length cc] 98)).cell? ⟨wr.heap.size, 3, none⟩ = some (.int .i64 e.int) ∧ ((wr.setCell ⟨g, L, none⟩ (.slice (some ⟨b, off + 6, none⟩) es.length (cy - 1))).alloc (.cells #[.int .i64 e.kind, .string e.name, .string e.more, .int .i64 e.int, .int .i64 e.den, .slice pc e.sub.length cc] 98)).cell? ⟨wr.heap.size, 4, none⟩ = some (.int .i64 e.den) by simp [go_sem])
     have hsa : wr.heap.size < ((wr.setCell ⟨g, L, none⟩ (.slice (some ⟨b, off + 6, none⟩) es.length (cy - 1))).alloc (.cells #[.int .i64 e.kind, .string e.name, .string e.more, .int .i64 e.int, .int .i64 e.den, .slice pc e.sub.length cc] 98)).heap.size := by simp [World.setCell]
     by_cases hk15 : e.kind = 15
     ·have hkt : (e.kind == 15) = true := by simpa using hk15
      have HK := Lib.hid hk15
      clear hk15
      obtain ⟨fn, tmps, assign, body, hy, hR⟩ := hY pre (L + 2, e, pc, cc) _ (hJ _ _ _ hJr (HA.out.mono (by omega))) (by have h1 := congrArg List.length HVP.out; have h2 := List.length_filter_le isSum vis; rw [List.length_map] at h1; omega)
      replace hy : (Instr.yield l #[.agg #[.int .i64 e.kind, .string e.name, .string e.more, .int .i64 e.int, .int .i64 e.den, .slice pc e.sub.length cc]]).run Tryz.prog ((wr.setCell ⟨g, L, none⟩ (.slice (some ⟨b, off + 6, none⟩) es.length (cy - 1))).alloc (.cells #[.int .i64 e.kind, .string e.name, .string e.more, .int .i64 e.int, .int .i64 e.den, .slice pc e.sub.length cc] 98)) = .ok (.round l fn tmps assign body) ((wr.setCell ⟨g, L, none⟩ (.slice (some ⟨b, off + 6, none⟩) es.length (cy - 1))).alloc (.cells #[.int .i64 e.kind, .string e.name, .string e.more, .int .i64 e.int, .int .i64 e.den, .slice pc e.sub.length cc] 98)) := hy
      rw [hL]
      gi_wp2_with fail
      generalize (wr.setCell ⟨g, L, none⟩ (.slice (some ⟨b, off + 6, none⟩) es.length (cy - 1))).alloc (.cells #[.int .i64 e.kind, .string e.name, .string e.more, .int .i64 e.int, .int .i64 e.den, .slice pc e.sub.length cc] 98) = A at *
      clear g0 g1 g2 g3 g4 g5 hcy hfy
      refine hR.mono ?_
      rintro e5 W5 (⟨rfl, hJ5, hk5⟩ | ⟨rfl, hJx5⟩)
      ·have d5 := keepOut_cell hk5 HCA.out (.inr (by show hi ≤ wr.heap.size; omega))
       have HS5 := Lib.hid (stackP_keep HSA.out hk5 (by omega))
       have hz5 := hk5.size
       have HL5 := Lib.hid ((HLR.out.step HA.out HPB.out).keep hk5 HPO.out)
       have hb5 : W.heap.size + 1 ≤ W5.heap.size := by omega
       clear hy hR
       obtain ⟨g5, cp5, cur5, ys5, hv5, hgb5, hcur5, _⟩ := id HS5.out
       simp only [Value.slice.injEq, Option.some.injEq, Addr.mk.injEq, and_true] at hv5
       obtain ⟨rfl, -, rfl⟩ := hv5
       obtain ⟨g6, cp6, ys, hv6, hgb6, hown, hrows⟩ := stackP_owns HS5.out
       have HROWS := Lib.hid hrows
       have HCUR := Lib.hid hcur5
       rw [List.length_cons, hL] at hown
       clear hv6 hrows hcur5
       gi_wp2_with (first
        | (gi_at_builtin; refine wpListIn_append_own _ rfl _ _ 237 rfl (W.heap.size + 1) 96 i0 _ 1 24 Tryz.underlying237 hi0 hz0 hz1 hz2 rfl (by decide) _ _ _ rfl (hown.alloc _) ⟨W5.heap.size, 0, none⟩ 1 1 [.slice pc e.sub.length cc] rfl rfl ?c3_1 ?c3_2 ?c3_3 ?c3_4 ?c3_5 ?_))
       case c3_1 => exact cell1_at _ _ _
       case c3_2 => intro u hu; simp at hu; subst hu; rfl
       case c3_3 => unfold maxLen; omega
       case c3_4 => omega
       case c3_5 => simp; omega
       intro v' w6 hown6 hgrow hne
       have hvn : v' ≠ .slice none 0 0 := hne
       have HST6 := Lib.hid (stackP_push hL hown6 hvn HROWS.out HSUB.out)
       have HI6 : Hid (ItStep (W.heap.size + 1) W5 w6) := Lib.hid (((ItStep.refl _ _).alloc hb5 _).grown hgrow hgb5 (by simp; omega) ((Below.heap_alloc _ _ _ (Array.getElem?_eq_some_iff.1 HCUR.out).1).trans HCUR.out))
       have hz6 := HI6.out.others.size
       have HJ6 := Lib.hid (hJ _ _ _ hJ5 (HI6.out.mono (by omega)))
       have HL6 := Lib.hid (HL5.out.step HI6.out HPB.out)
       have hM6 : 2 * (restL (e.sub :: es :: st)).length + (e.sub :: es :: st).length < M := by
        have h1 := HMM.out
        have h2 := congrArg List.length HREL.out
        simp only [List.length_cons] at h1 h2 ⊢
        omega
       have HR6 : Hid (ConfRel (W.heap.size + 1) 96 (fun b => b < lo ∨ b = W.heap.size) W1 (.mk k nm mr it d sub) J (2 * (restL (e.sub :: es :: st)).length + (e.sub :: es :: st).length) v' w6) := Lib.hid ⟨vis ++ [(L + 2, e)], pre ++ [(L + 2, e, pc, cc)], _, HST6.out, HJ6.out, HL6.out, by omega, by simp; omega, by
        rw [← HPRE.out, HREL.out]; simp, by simp [HVP.out, List.filter_append, isSum, HK.out, projN], rfl⟩
       clear hown hown6 hgrow hne d5
       gi_wp2_with fail
       go_roundw
       case rel => exact ⟨_, HR6.out⟩
       case measure =>
        rw [HMQ.out]
        exact least_lt HR6.out hM6
      ·gi_wp2_with fail
       refine bodyPost_ret (results_none rfl _ _ _) rfl ?_
       exact ⟨⟨_, rfl⟩, .inr ⟨_, ⟨(restL (e.sub :: es :: st)).filter isSum, by rw [← HPRE.out, HREL.out]; simp [HVP.out, List.filter_append, isSum, HK.out, projN]⟩, hJx5⟩⟩
     ·have hkt : (e.kind == 15) = false := by simpa using hk15
      have HK := Lib.hid hk15
      clear hk15
      have hJ5 := hJ _ _ _ hJr (HA.out.mono (by omega))
      have HS5 := HSA
      have HL5 := Lib.hid (HLR.out.step HA.out HPB.out)
      have hb5 : W.heap.size + 1 ≤ ((wr.setCell ⟨g, L, none⟩ (.slice (some ⟨b, off + 6, none⟩) es.length (cy - 1))).alloc (.cells #[.int .i64 e.kind, .string e.name, .string e.more, .int .i64 e.int, .int .i64 e.den, .slice pc e.sub.length cc] 98)).heap.size := by omega
      rw [hL]
      have d5 := HCA.out
      obtain ⟨g5, cp5, cur5, ys5, hv5, hgb5, hcur5, _⟩ := id HS5.out
      simp only [Value.slice.injEq, Option.some.injEq, Addr.mk.injEq, and_true] at hv5
      obtain ⟨rfl, -, rfl⟩ := hv5
      obtain ⟨g6, cp6, ys, hv6, hgb6, hown, hrows⟩ := stackP_owns HS5.out
      have HROWS := Lib.hid hrows
      have HCUR := Lib.hid hcur5
      rw [List.length_cons, hL] at hown
      clear hv6 hrows hcur5
      gi_wp2_with fail
      refine ⟨by simp, ?_⟩
      gi_wp2_with (first
       | (gi_at_builtin; refine wpListIn_append_own _ rfl _ _ 237 rfl (W.heap.size + 1) 96 i0 _ 1 24 Tryz.underlying237 hi0 hz0 hz1 hz2 rfl (by decide) _ _ _ rfl (hown.alloc _) ⟨wr.heap.size + 1, 0, none⟩ 1 1 [.slice pc e.sub.length cc] rfl rfl ?c4_1 ?c4_2 ?c4_3 ?c4_4 ?c4_5 ?_))
      case c4_1 => rw [show wr.heap.size + 1 = ((wr.setCell ⟨g, L, none⟩ (.slice (some ⟨b, off + 6, none⟩) es.length (cy - 1))).alloc (.cells #[.int .i64 e.kind, .string e.name, .string e.more, .int .i64 e.int, .int .i64 e.den, .slice pc e.sub.length cc] 98)).heap.size by simp [World.setCell]]; exact cell1_at _ _ _
      case c4_2 => intro u hu; simp at hu; subst hu; rfl
      case c4_3 => unfold maxLen; omega
      case c4_4 => omega
      case c4_5 => simp; omega
      intro v' w6 hown6 hgrow hne
      have hvn : v' ≠ .slice none 0 0 := hne
      have HST6 := Lib.hid (stackP_push hL hown6 hvn HROWS.out HSUB.out)
      have HI6 : Hid (ItStep (W.heap.size + 1) ((wr.setCell ⟨g, L, none⟩ (.slice (some ⟨b, off + 6, none⟩) es.length (cy - 1))).alloc (.cells #[.int .i64 e.kind, .string e.name, .string e.more, .int .i64 e.int, .int .i64 e.den, .slice pc e.sub.length cc] 98)) w6) := Lib.hid (((ItStep.refl _ _).alloc hb5 _).grown hgrow hgb5 (by simp; omega) ((Below.heap_alloc _ _ _ (Array.getElem?_eq_some_iff.1 HCUR.out).1).trans HCUR.out))
      have hz6 := HI6.out.others.size
      have HJ6 := Lib.hid (hJ _ _ _ hJ5 (HI6.out.mono (by omega)))
      have HL6 := Lib.hid (HL5.out.step HI6.out HPB.out)
      have hM6 : 2 * (restL (e.sub :: es :: st)).length + (e.sub :: es :: st).length < M := by
       have h1 := HMM.out
       have h2 := congrArg List.length HREL.out
       simp only [List.length_cons] at h1 h2 ⊢
       omega
      have HR6 : Hid (ConfRel (W.heap.size + 1) 96 (fun b => b < lo ∨ b = W.heap.size) W1 (.mk k nm mr it d sub) J (2 * (restL (e.sub :: es :: st)).length + (e.sub :: es :: st).length) v' w6) := Lib.hid ⟨vis ++ [(L + 2, e)], pre, _, HST6.out, HJ6.out, HL6.out, by omega, by simp; omega, by
       rw [← HPRE.out, HREL.out]; simp, by simp [HVP.out, List.filter_append, isSum, HK.out], rfl⟩
      clear hown hown6 hgrow hne d5
      gi_wp2_with fail
      go_roundw
      case rel => exact ⟨_, HR6.out⟩
      case measure =>
       rw [HMQ.out]
       exact least_lt HR6.out hM6
end
section
open Go.RowKit Go.Shelf
attribute [local go_sem] Oper.semAt_some
theorem mconflicts_any (k : Int) (nm mr : ByteArray) (it d : Int) (p : Option Addr) (len cap : Nat) (w : World) :
  Calls Tryz.prog 142 #[.agg #[.int .i64 k, .string nm, .string mr, .int .i64 it, .int .i64 d, .slice p len cap]] w fun e w' =>
   e = .returned (.func (.func 174) #[] #[.pointer (some ⟨w.heap.size, 0, none⟩)]) ∧ w.alloc (.cells #[.int .i64 k, .string nm, .string mr, .int .i64 it, .int .i64 d, .slice p len cap] 98) = w' := by
 go_enter Tryz.func142, Tryz.ntmps142
 go_wp2
 go_ret
 exact ⟨rfl, rfl⟩
structure CnFrameM (w : World) (E : Array Value) (T : TypeId) (x : Value) (W : World) : Prop where
 e : W.heap[w.heap.size]? = some (.cells E 98 (0, 0))
 c : W.heap[w.heap.size + 1]? = some (.cells #[x] T (0, 0))
 size : w.heap.size + 1 + 1 + 1 ≤ W.heap.size
 below : Below w.heap.size w W
theorem CnFrameM.grown {w : World} {E : Array Value} {T : TypeId} {x : Value} {A B : World} {row : Option Nat} (h : CnFrameM w E T x A) (hg : A.grownBy B row) (hr : ∀ r, row = some r → w.heap.size ≤ r ∧ ∃ o : Obj, A.heap[r]? = some o ∧ o.isCells = false) : CnFrameM w E T x B :=
 have hr' := fun r e => (hr r e).2
 ⟨(grownBy_keeps_cells hg hr' h.e rfl).trans h.e, (grownBy_keeps_cells hg hr' h.c rfl).trans h.c, Nat.le_trans h.size hg.size, h.below.trans ((Below.refl _ _).grown hg (by have := h.size; omega) (fun k e => (hr k e).1))⟩
theorem CnFrameM.step {w : World} {E : Array Value} {T : TypeId} {x : Value} {A B : World} {base : Nat} (h : CnFrameM w E T x A) (hs : ItStep base A B) (hb : w.heap.size + 1 + 1 + 1 ≤ base) : CnFrameM w E T x B :=
 ⟨(hs.below.block _ (by omega)).trans h.e, (hs.below.block _ (by omega)).trans h.c, Nat.le_trans h.size hs.others.size, h.below.trans (hs.below.mono (by omega))⟩
theorem CnFrameM.set {w : World} {E : Array Value} {T : TypeId} {x : Value} {A : World} (h : CnFrameM w E T x A) (y : Value) : CnFrameM w E T y (A.setCell ⟨w.heap.size + 1, 0, none⟩ y) :=
 ⟨(Below.heap_setCell _ _ _ _ (by simp)).trans h.e, one_setCell h.c, by simpa [World.setCell] using h.size, h.below.setCell (p := ⟨w.heap.size + 1, 0, none⟩) (by simp) _⟩
theorem cn_startM (w : World) (t1 T : TypeId) (E : Array Value) (x : Value) (V : World) (hV : ((w.alloc (.cells E t1)).alloc (.cells #[x] T)).alloc (.cells E t1) = V) (h1 : t1 = 98 := by rfl) :
  CnFrameM w E T x V ∧ V.heap[w.heap.size + 1 + 1]? = some (.cells E t1 (0, 0)) ∧ V.heap.size = w.heap.size + 1 + 1 + 1 := by
 subst h1
 have q1 := World.alloc_heap_new w (.cells E 98)
 have q2 := World.alloc_heap_new (w.alloc (.cells E 98)) (.cells #[x] T)
 have q3 := World.alloc_heap_new ((w.alloc (.cells E 98)).alloc (.cells #[x] T)) (.cells E 98)
 simp only [World.size_alloc] at q2 q3
 rw [hV] at q3
 refine ⟨⟨?_, ?_, ?_, ?_⟩, q3, ?_⟩ <;> rw [← hV]
 ·exact (Below.heap_alloc _ _ _ (by simp <;> omega)).trans ((Below.heap_alloc _ _ _ (by simp)).trans q1)
 ·exact (Below.heap_alloc _ _ _ (by simp)).trans q2
 ·simp
 ·exact (((Below.refl _ w).alloc (Nat.le_refl _) _).alloc (by simp) _).alloc (by simp; omega) _
 ·simp
def Cn1 (w : World) (E : Array Value) (pre : List (ItN)) (W : World) : Prop := CnFrameM w E 3 (.int .i64 pre.length) W
def Cn1x (_ : Code) (_ : List (ItN)) (_ : World) : Prop := False
theorem cn1_own (w : World) (E : Array Value) (B : Nat) (hB : w.heap.size ≤ B) : OwnFrom B (Cn1 w E) := fun _ _ _ _ hs hg hr => CnFrameM.grown hs hg (fun r e => ⟨by have := (hr r e).1; omega, (hr r e).2⟩)
theorem cn1x_own (c : Code) (B : Nat) : OwnFrom B (Cn1x c) := fun _ _ _ _ hs _ _ => hs
theorem confAll_length {t : Ex} {xs : List ItN} (h : ConfAll t xs) : xs.length = confE t := by
 have := congrArg List.length (show _ = _ from h)
 rw [List.length_map, confE_pre] at this; exact this
set_option maxRecDepth 100000 in
set_option maxHeartbeats 4000000 in
theorem mConflicts_any (k : Int) (nm mr : ByteArray) (it d : Int) (sub : List Ex) (sv : Value) (w : World) (hm : nodesL sub ≤ 1048576) (hs : SubAt w w.heap.size sub sv) :
  Calls Tryz.prog 92 #[.agg #[.int .i64 k, .string nm, .string mr, .int .i64 it, .int .i64 d, sv]] w fun e w' => e = .returned (.int .i64 (confE (.mk k nm mr it d sub))) ∧ Below w.heap.size w w' := by
 obtain ⟨p, cap, rfl, hcap, _⟩ := subAt_open hs
 refine (callsIn_wide (n := 4)).1 ?_
 refine callsIn_of_wp_marks Tryz.func92 rfl trivial ?_ rfl
 simp only [Tryz.ntmps92, List.size_toArray, List.length_cons, List.length_nil, Nat.reduceAdd, Nat.reduceSub, Array.replicate_succ, Array.replicate_zero, List.push_toArray, List.append_toArray, List.nil_append, List.cons_append]
 gi_wp2_with (first | (refine ⟨trivial, ?_⟩; gi_at_call 142; refine (callsIn_wide.2 (mconflicts_any _ _ _ _ _ _ _ _ _)).mono ?_; rintro e w' ⟨rfl, rfl⟩))
 have HS := Lib.hid hs
 obtain ⟨V, hV⟩ : ∃ V, (((w.alloc (Obj.cells #[.int .i64 k, .string nm, .string mr, .int .i64 it, .int .i64 d, .slice p sub.length cap] 98)).alloc (Obj.cells #[Value.int IntKind.i64 0] 3)).alloc (Obj.cells #[.int .i64 k, .string nm, .string mr, .int .i64 it, .int .i64 d, .slice p sub.length cap] 98)) = V := ⟨_, rfl⟩
 obtain ⟨hF, hb4, hz⟩ := cn_startM w 98 3 #[.int .i64 k, .string nm, .string mr, .int .i64 it, .int .i64 d, .slice p sub.length cap] (.int .i64 0) V hV
 rw [hV]
 clear hV hs
 refine wpIn_rangeFunc_R (P := Tryz.prog) (F := Fence.wide) (n := 4) rfl (by omega) (gf := 174) (lb := #[.pointer (some ⟨w.heap.size + 1 + 1, 0, none⟩)]) rfl trivial (enters_of Tryz.func174 (by kernel_rfl) rfl)
  (encs := fun x : ItN => #[valN x]) (Kp := KeepOut w.heap.size (w.heap.size + 1 + 1)) (R := ItStep (V.heap.size + 1 + 1)) (X := fun pre _ => pre.length ≤ 1048577)
  (S := ConfAll (.mk k nm mr it d sub)) (Sp := ConfPre (.mk k nm mr it d sub))
  (fun r l J Jx hJ _ hY hJ0 => conf1_in 3 l (w.heap.size + 1 + 1) w.heap.size (w.heap.size + 1 + 1) (by omega) k nm mr it d sub p cap _ (subAt_below HS.out ((hF.below.alloc (by omega) _).alloc (by simp; omega) _) (Nat.le_refl _)) (by omega) (Nat.le_refl _)
   ((Below.heap_alloc _ _ _ (by simp; omega)).trans ((Below.heap_alloc _ _ _ (by omega)).trans hb4)) hm J Jx (fun pre A B h1 h2 => hJ pre A B h1 (by simpa using h2)) hY hJ0)
  (fun h1 h2 => h1.trans h2) (fun W l o o' _ hl ho => KeepOut.putObj W l o o' hl ho) (fun h => h.others.from _) (fun _ => rfl)
  (Cn1 w #[.int .i64 k, .string nm, .string mr, .int .i64 it, .int .i64 d, .slice p sub.length cap]) Cn1x (cn1_own w _ _ (by omega)) (fun c => cn1x_own c _)
  (fun pre A B h hs => CnFrameM.step h hs (by omega)) (fun c pre A B h hs => h) hF
  (fun x => { tmps := #[Value.agg #[.int .i64 k, .string nm, .string mr, .int .i64 it, .int .i64 d, .slice p sub.length cap], Value.pointer (some { block := w.heap.size, off := 0 }), Value.int .i64 0, Value.pointer (some { block := w.heap.size + 1, off := 0 }),
        Value.agg #[.int .i64 k, .string nm, .string mr, .int .i64 it, .int .i64 d, .slice p sub.length cap], Value.func (Fn.func 174) #[] #[Value.pointer (some { block := w.heap.size + 1 + 1, off := 0 })], valN x, undef, undef, undef], defers := [] }) ?assign ?body ?done ?stop
 case assign =>
  intro l x W K hK
  gi_wp2
  simpa using hK
 case body =>
  rintro l pre x W hI hX
  have c0 := cell_of_one hI.c
  have f0 := free_of_one hI.c
  have HI := Lib.hid hI
  clear hI
  have hsz := HI.out.size
  gi_wp2_with fail
  have hF' := HI.out.set (.int .i64 ((pre.length : Int) + 1))
  refine ⟨(KeepsOthers.setCell _ _ _).from _, (KeepOut.below (Below.refl _ _)).setCell (p := ⟨w.heap.size + 1, 0, none⟩) (by simp) _, ?_⟩
  have e1 : ((pre ++ [x]).length : Int) = (pre.length : Int) + 1 := by simp
  unfold Cn1
  rw [e1]; exact hF'
 case done =>
  rintro D xs W hD hS hI hK
  have hl := confAll_length hS
  have c0 := cell_of_one hI.c
  have HL := Lib.hid hl
  have HI := Lib.hid hI
  clear hl hI hS
  gi_wp2_with fail
  refine ⟨by simp, .inl ⟨_, _, rfl, run_takeDeferred hK, ?_⟩⟩
  refine ⟨.int .i64 xs.length, ?_, ret_intE (a := xs.length) (by rw [HL.out]), HI.out.below.trans (belowK_b (w := w) (Nat.le_refl _) W D _ _ (by omega) hK rfl rfl)⟩
  simp [results, Tryz.f92, go_sem]
 case stop =>
  rintro D c pre W hD hpre hf hK
  exact hf.elim
end
section
open Go Go.RowKit
theorem mmConflicts_x {a : Ex} {xa : XV} {w : World} (ha : XAt w a xa) (hsz : nodesE a ≤ 1048576) :
  Calls Tryz.prog 92 #[.agg xa.arr] w fun e w' => e = .returned (.int .i64 (confE a)) ∧ Below w.heap.size w w' := by
 obtain ⟨ea, ha⟩ := xAt_sub ha
 rw [ea]
 rw [nodesE_eq] at hsz
 have h := mConflicts_any a.kind a.name a.more a.int a.den a.sub _ w (by omega) ha
 rw [Ex.eta] at h
 exact h
theorem mmConflicts_c (a : Ex) (hsz : nodesE a ≤ 1048576) : Con Tryz.prog 92 [avE a] (.d (.raw (.int .i64 (confE a)))) := con_e1 ⟨_, Tryz.func92, by decide +kernel, rfl⟩ fun _ _ hx => mmConflicts_x hx hsz
end
end Go.Proofs.YtnjedgpidalioaaGreatDoor
