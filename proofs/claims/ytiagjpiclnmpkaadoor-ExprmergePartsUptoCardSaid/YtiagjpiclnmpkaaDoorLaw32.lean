/- Contracts of layer 32 over expressions as values, as the laws want them. op, great, fine of the laws of layer 32. awake of the laws of layer 32. ExprmergeMerge: the walk. -/
import Derived.Test.YtiagjpiclnmpkaaDoorExZc
import Derived.Test.YtiagjpiclnmpkaaDoorCnC
import Derived.Deep.RegionHeld3
import Derived.Deep.DeepCutAuto
namespace Go.Proofs.YtiagjpiclnmpkaaDoor
open Go.RowKit

/-- an expression's value -/
structure XV where
  k : Int
  n : ByteArray
  m : ByteArray
  i : Int
  d : Int
  p : Option Addr
  q : Nat
  c : Nat
abbrev XV.arr (x : XV) : Array Value := #[.int .i64 x.k, .string x.n, .string x.m, .int .i64 x.i, .int .i64 x.d, .slice x.p x.q x.c]
/-- the value reads as the expression -/
def XAt (w : World) (t : Ex) (x : XV) : Prop := ExAt w w.heap.size t (.agg x.arr)
theorem XAt.kept {w w' : World} {t : Ex} {x : XV} (h : XAt w t x) (hb : Below w.heap.size w w') : XAt w' t x := exAt_below h hb hb.size
theorem xAt_sub {w : World} {t : Ex} {x : XV} (h : XAt w t x) : x = ⟨t.kind, t.name, t.more, t.int, t.den, x.p, t.sub.length, x.c⟩ ∧ SubAt w w.heap.size t.sub (.slice x.p t.sub.length x.c) := by
  obtain ⟨sv, he, hs⟩ := exAt_iff.1 h
  obtain ⟨k, n, m, i, d, p, q, c⟩ := x
  obtain ⟨p', c', rfl, hc, hr⟩ := id hs
  simp only [XV.arr, Value.agg.injEq, Array.mk.injEq, List.cons.injEq, and_true, Value.int.injEq, Value.string.injEq, Value.slice.injEq, true_and] at he
  obtain ⟨rfl, rfl, rfl, rfl, rfl, rfl, rfl, rfl⟩ := he
  exact ⟨rfl, hs⟩
theorem xAt_of_ex {w : World} {t : Ex} {v : Value} (h : ExAt w w.heap.size t v) : ∃ x : XV, v = .agg x.arr ∧ XAt w t x := by
  obtain ⟨sv, rfl, hs⟩ := exAt_iff.1 h
  obtain ⟨p', c', rfl, hc, hr⟩ := id hs
  exact ⟨⟨t.kind, t.name, t.more, t.int, t.den, p', t.sub.length, c'⟩, rfl, h⟩
/-- a call hands an expression back -/
def RetX (w : World) (t : Ex) (e : Ending) (w' : World) : Prop := ∃ x : XV, e = .returned (.agg x.arr) ∧ XAt w' t x ∧ Below w.heap.size w w'
def RetX2 (w : World) (t : Ex × Int) (e : Ending) (w' : World) : Prop := ∃ x : XV, e = .returned (.tuple #[.agg x.arr, .int .i64 t.2]) ∧ XAt w' t.1 x ∧ Below w.heap.size w w'
theorem newP_lt {w w' : World} (hb : Below w.heap.size w w') : ∀ b, NewP (· < w.heap.size) w w' b → b < w'.heap.size := fun b h => by
  have := hb.size
  rcases h with h | h
  · have h' : b < w.heap.size := h
    omega
  · exact h.2
theorem retX_of {w : World} {t : Ex} {e : Ending} {w' : World} (h : RetEx (· < w.heap.size) w t e w') : RetX w t e w' := by
  obtain ⟨v, rfl, hx, hb⟩ := h
  obtain ⟨x, rfl, hx'⟩ := xAt_of_ex (exAt_of (newP_lt hb) _ _ hx)
  exact ⟨x, rfl, hx', hb⟩
theorem retX2_of {w : World} {t : Ex × Int} {e : Ending} {w' : World} (h : RetEx2 (· < w.heap.size) w t e w') : RetX2 w t e w' := by
  obtain ⟨v, rfl, hx, hb⟩ := h
  obtain ⟨x, rfl, hx'⟩ := xAt_of_ex (exAt_of (newP_lt hb) _ _ hx)
  exact ⟨x, rfl, hx', hb⟩
theorem mMerge_x {b l r : Ex} {xb xl xr : XV} {w : World} (hb : XAt w b xb) (hl : XAt w l xl) (hr : XAt w r xr) (hsz : 2 * nodesE b + nodesE l + nodesE r ≤ 1048000) :
    Calls Tryd.prog 12 #[.agg xb.arr, .agg xl.arr, .agg xr.arr] w (RetX2 w (mergeX b l r)) := by
  obtain ⟨eb, hb⟩ := xAt_sub hb
  obtain ⟨el, hl⟩ := xAt_sub hl
  obtain ⟨er, hr⟩ := xAt_sub hr
  rw [eb, el, er]
  rw [nodesE_eq, nodesE_eq l, nodesE_eq r] at hsz
  have h := mMerge_any b.kind b.name b.more b.int b.den b.sub xb.p xb.c l.kind l.name l.more l.int l.den l.sub xl.p xl.c r.kind r.name r.more r.int r.den r.sub xr.p xr.c (· < w.heap.size) w (fun _ h => h) (by omega) (by omega) (by omega) (subP_of hb) (subP_of hl) (subP_of hr) (by omega)
  rw [Ex.eta, Ex.eta, Ex.eta] at h
  exact h.mono fun _ _ h => retX2_of h
theorem rMerge_x {b l r : Ex} {xb xl xr : XV} {w : World} (hb : XAt w b xb) (hl : XAt w l xl) (hr : XAt w r xr) (hsz : 2 * nodesE b + nodesE l + nodesE r ≤ 1048000) :
    Calls Tryd.prog 13 #[.agg xb.arr, .agg xl.arr, .agg xr.arr] w (RetX2 w (mergeX b l r)) := by
  obtain ⟨eb, hb⟩ := xAt_sub hb
  obtain ⟨el, hl⟩ := xAt_sub hl
  obtain ⟨er, hr⟩ := xAt_sub hr
  rw [eb, el, er]
  rw [nodesE_eq, nodesE_eq l, nodesE_eq r] at hsz
  have h := rMerge_any b.kind b.name b.more b.int b.den b.sub xb.p xb.c l.kind l.name l.more l.int l.den l.sub xl.p xl.c r.kind r.name r.more r.int r.den r.sub xr.p xr.c (· < w.heap.size) w (fun _ h => h) (by omega) (by omega) (by omega) (subP_of hb) (subP_of hl) (subP_of hr) (by omega)
  rw [Ex.eta, Ex.eta, Ex.eta] at h
  exact h.mono fun _ _ h => retX2_of h
theorem rSame_x {a b : Ex} {xa xb : XV} {w : World} (ha : XAt w a xa) (hb : XAt w b xb) (hsz : nodesE a ≤ 1099511627776) :
    Calls Tryd.prog 14 #[.agg xa.arr, .agg xb.arr] w fun e w' => e = .returned (.bool (sameE a b)) ∧ Below w.heap.size w w' := by
  obtain ⟨ea, ha⟩ := xAt_sub ha
  obtain ⟨eb, hb⟩ := xAt_sub hb
  rw [ea, eb]
  rw [nodesE_eq] at hsz
  have h := rSame_any (nodesL a.sub + 1) a.kind a.name a.more a.int a.den a.sub _ b.kind b.name b.more b.int b.den b.sub _ w (by omega) (by omega) ha hb
  rw [Ex.eta, Ex.eta] at h
  exact h
theorem rCheckExpr_x {a : Ex} {xa : XV} {w : World} (ha : XAt w a xa) (hsz : nodesE a ≤ 1048576) :
    Calls Tryd.prog 15 #[.agg xa.arr] w fun e w' => e = .returned (.int .i64 (checkX a)) ∧ Below w.heap.size w w' := by
  obtain ⟨ea, ha⟩ := xAt_sub ha
  rw [ea]
  rw [nodesE_eq] at hsz
  have h := rCheckExpr_any a.kind a.name a.more a.int a.den a.sub _ w (by omega) ha
  rw [Ex.eta] at h
  exact h
theorem sCheckExpr_x {a : Ex} {xa : XV} {w : World} (ha : XAt w a xa) (hsz : nodesE a ≤ 1048576) :
    Calls Tryd.prog 29 #[.agg xa.arr] w fun e w' => e = .returned (.int .i64 (checkX a)) ∧ Below w.heap.size w w' := by
  obtain ⟨ea, ha⟩ := xAt_sub ha
  rw [ea]
  rw [nodesE_eq] at hsz
  have h := sCheckExpr_any a.kind a.name a.more a.int a.den a.sub _ w (by omega) ha
  rw [Ex.eta] at h
  exact h
theorem rGreat_x {a : Ex} {xa : XV} {w : World} (ha : XAt w a xa) (hsz : nodesE a ≤ 1048576) :
    Calls Tryd.prog 28 #[.agg xa.arr] w fun e w' => e = .returned (.bool (greatE a)) ∧ Below w.heap.size w w' := by
  obtain ⟨ea, ha⟩ := xAt_sub ha
  rw [ea]
  rw [nodesE_eq] at hsz
  have h := rGreat_any a.kind a.name a.more a.int a.den a.sub _ w (by omega) ha
  rw [Ex.eta] at h
  exact h
theorem rClean_x {a : Ex} {xa : XV} {w : World} (ha : XAt w a xa) (hsz : nodesE a ≤ 1048576) :
    Calls Tryd.prog 27 #[.agg xa.arr] w fun e w' => e = .returned (.bool (confE a == 0)) ∧ Below w.heap.size w w' := by
  obtain ⟨ea, ha⟩ := xAt_sub ha
  rw [ea]
  rw [nodesE_eq] at hsz
  have h := rClean_any a.kind a.name a.more a.int a.den a.sub _ w (by omega) ha
  rw [Ex.eta] at h
  exact h
theorem mClean_x {a : Ex} {xa : XV} {w : World} (ha : XAt w a xa) (hsz : nodesE a ≤ 1048576) :
    Calls Tryd.prog 20 #[.agg xa.arr] w fun e w' => e = .returned (.bool (confE a == 0)) ∧ Below w.heap.size w w' := by
  obtain ⟨ea, ha⟩ := xAt_sub ha
  rw [ea]
  rw [nodesE_eq] at hsz
  have h := mClean_any a.kind a.name a.more a.int a.den a.sub _ w (by omega) ha
  rw [Ex.eta] at h
  exact h
theorem mConflicts_x {a : Ex} {xa : XV} {w : World} (ha : XAt w a xa) (hsz : nodesE a ≤ 1048576) :
    Calls Tryd.prog 25 #[.agg xa.arr] w fun e w' => e = .returned (.int .i64 (confE a)) ∧ Below w.heap.size w w' := by
  obtain ⟨ea, ha⟩ := xAt_sub ha
  rw [ea]
  rw [nodesE_eq] at hsz
  have h := mConflicts_any a.kind a.name a.more a.int a.den a.sub _ w (by omega) ha
  rw [Ex.eta] at h
  exact h
theorem rConflicts_x {a : Ex} {xa : XV} {w : World} (ha : XAt w a xa) (hsz : nodesE a ≤ 1048576) :
    Calls Tryd.prog 26 #[.agg xa.arr] w fun e w' => e = .returned (.int .i64 (confE a)) ∧ Below w.heap.size w w' := by
  obtain ⟨ea, ha⟩ := xAt_sub ha
  rw [ea]
  rw [nodesE_eq] at hsz
  have h := rConflicts_any (nodesL a.sub + 1) a.kind a.name a.more a.int a.den a.sub _ w (by omega) (by omega) ha
  have e1 : ((if a.kind = 15 then 1 else 0) + confL a.sub : Nat) = confE a := by cases a; rw [confE]; rfl
  rw [e1] at h
  exact h
/-- an expression in a box -/
def Bx (W : World) (b : Nat) (x : XV) : Prop := W.heap[b]? = some (.cells x.arr 24 (0, 0))
theorem Bx.lt {W : World} {b : Nat} {x : XV} (h : Bx W b x) : b < W.heap.size := (Array.getElem?_eq_some_iff.1 h).1
theorem Bx.kept {W W' : World} {b : Nat} {x : XV} (h : Bx W b x) (hb : Below W.heap.size W W') : Bx W' b x := (hb.block _ h.lt).trans h
theorem Bx.cells {W : World} {b : Nat} {x : XV} (h : Bx W b x) : W.cell? ⟨b, 0, none⟩ = some (.int .i64 x.k) ∧ W.cell? ⟨b, 1, none⟩ = some (.string x.n) ∧ W.cell? ⟨b, 2, none⟩ = some (.string x.m) ∧ W.cell? ⟨b, 3, none⟩ = some (.int .i64 x.i) ∧ W.cell? ⟨b, 4, none⟩ = some (.int .i64 x.d) ∧ W.cell? ⟨b, 5, none⟩ = some (.slice x.p x.q x.c) := cells6 h
theorem Bx.new (W : World) (x : XV) : Bx (W.alloc (.cells x.arr 24)) W.heap.size x := World.alloc_heap_new W _
theorem Bx.alloc {W : World} {b : Nat} {x : XV} (h : Bx W b x) (o : Obj) : Bx (W.alloc o) b x := (Below.heap_alloc _ _ _ h.lt).trans h
theorem XAt.alloc {w : World} {t : Ex} {x : XV} (h : XAt w t x) (o : Obj) : XAt (w.alloc o) t x := h.kept ((Below.refl _ _).alloc (Nat.le_refl _) _)
end Go.Proofs.YtiagjpiclnmpkaaDoor

namespace Go.Proofs.YtiagjpiclnmpkaaDoor
open Go.RowKit

def opE (nm : ByteArray) (a b : Ex) : Ex := .mk 10 nm ⟨#[]⟩ 0 0 [a, b]
theorem two_sub {W : World} {a b : Ex} {xa xb : XV} {g : Nat} (ha : XAt W a xa) (hb : XAt W b xb) (hr : W.heap[g]? = some (.cells #[.int .i64 xa.k, .string xa.n, .string xa.m, .int .i64 xa.i, .int .i64 xa.d, .slice xa.p xa.q xa.c, .int .i64 xb.k, .string xb.n, .string xb.m, .int .i64 xb.i, .int .i64 xb.d, .slice xb.p xb.q xb.c] 24 (0, 0))) :
    SubAt W W.heap.size [a, b] (.slice (some ⟨g, 0, none⟩) 2 2) := by
  obtain ⟨ea, ha⟩ := xAt_sub ha
  obtain ⟨eb, hb⟩ := xAt_sub hb
  rw [ea, eb] at hr
  have hc : ∀ j, W.cell? ⟨g, j, none⟩ = _ := fun j => by simp only [World.cell?, hr]; rfl
  refine ⟨_, 2, rfl, Nat.le_refl _, fun _ => ⟨g, 0, rfl, (Array.getElem?_eq_some_iff.1 hr).1, rowAt_cons.2 ⟨⟨_, ?_, ?_, ?_, ?_, ?_, ?_, ha⟩, rowAt_cons.2 ⟨⟨_, ?_, ?_, ?_, ?_, ?_, ?_, hb⟩, rowAt_nil⟩⟩⟩⟩ <;> simp [World.cell?, hr]
set_option maxRecDepth 100000 in
set_option maxHeartbeats 1000000 in
theorem op_x {nm : ByteArray} {a b : Ex} {xa xb : XV} {w : World} (ha : XAt w a xa) (hb : XAt w b xb) :
    Calls Tryd.prog 19 #[.string nm, .agg xa.arr, .agg xb.arr] w (RetX w (opE nm a b)) := by
  go_enter Tryd.func19, Tryd.ntmps19
  go_wp2_with fail
  obtain ⟨W, hW⟩ : ∃ W, (((w.alloc (.cells xa.arr 24)).alloc (.cells xb.arr 24)).alloc (.cells #[.int .i64 10, .string nm, .string ⟨#[]⟩, .int .i64 0, .int .i64 0, .slice (some ⟨w.heap.size + 1 + 1 + 1, 0, none⟩) 2 2] 24)).alloc (.cells #[.int .i64 xa.k, .string xa.n, .string xa.m, .int .i64 xa.i, .int .i64 xa.d, .slice xa.p xa.q xa.c, .int .i64 xb.k, .string xb.n, .string xb.m, .int .i64 xb.i, .int .i64 xb.d, .slice xb.p xb.q xb.c] 24) = W := ⟨_, rfl⟩
  have hbW : Below w.heap.size w W := by rw [← hW]; exact ((((Below.refl _ _).alloc (Nat.le_refl _) _).alloc (by simp) _).alloc (by simp; omega) _).alloc (by simp; omega) _
  have b4 := World.alloc_heap_new (((w.alloc (.cells xa.arr 24)).alloc (.cells xb.arr 24)).alloc (.cells #[.int .i64 10, .string nm, .string ⟨#[]⟩, .int .i64 0, .int .i64 0, .slice (some ⟨w.heap.size + 1 + 1 + 1, 0, none⟩) 2 2] 24)) (.cells #[.int .i64 xa.k, .string xa.n, .string xa.m, .int .i64 xa.i, .int .i64 xa.d, .slice xa.p xa.q xa.c, .int .i64 xb.k, .string xb.n, .string xb.m, .int .i64 xb.i, .int .i64 xb.d, .slice xb.p xb.q xb.c] 24)
  have b3 := (Bx.new ((w.alloc (.cells xa.arr 24)).alloc (.cells xb.arr 24)) ⟨10, nm, ⟨#[]⟩, 0, 0, some ⟨w.heap.size + 1 + 1 + 1, 0, none⟩, 2, 2⟩).alloc (.cells #[.int .i64 xa.k, .string xa.n, .string xa.m, .int .i64 xa.i, .int .i64 xa.d, .slice xa.p xa.q xa.c, .int .i64 xb.k, .string xb.n, .string xb.m, .int .i64 xb.i, .int .i64 xb.d, .slice xb.p xb.q xb.c] 24)
  simp only [World.size_alloc] at b4 b3
  rw [hW] at b4 b3 ⊢
  obtain ⟨z0, z1, z2, z3, z4, z5⟩ := b3.cells
  refine bodyPost_ret (v := .agg #[.int .i64 10, .string nm, .string ⟨#[]⟩, .int .i64 0, .int .i64 0, .slice (some ⟨w.heap.size + 1 + 1 + 1, 0, none⟩) 2 2]) (by simp [results, Tryd.results19, go_sem, z0, z1, z2, z3, z4, z5]) rfl ⟨⟨10, nm, ⟨#[]⟩, 0, 0, some ⟨w.heap.size + 1 + 1 + 1, 0, none⟩, 2, 2⟩, rfl, ?_, hbW⟩
  exact exAt_iff.2 ⟨_, rfl, two_sub (ha.kept hbW) (hb.kept hbW) b4⟩
/-- the value reads as the expression, and none of Z's blocks is read -/
def XE (W : World) (Z : Nat → Prop) (t : Ex) (x : XV) : Prop := ExP W (fun b => b < W.heap.size ∧ ¬ Z b) t (.agg x.arr)
def RetE (w : World) (Z : Nat → Prop) (t : Ex) (e : Ending) (w' : World) : Prop := ∃ x : XV, e = .returned (.agg x.arr) ∧ XE w' Z t x ∧ Below w.heap.size w w'
def RetE2 (w : World) (Z : Nat → Prop) (t : Ex × Int) (e : Ending) (w' : World) : Prop := ∃ x : XV, e = .returned (.tuple #[.agg x.arr, .int .i64 t.2]) ∧ XE w' Z t.1 x ∧ Below w.heap.size w w'
theorem XE.kept {w w' : World} {Z : Nat → Prop} {t : Ex} {x : XV} (h : XE w Z t x) (hb : Below w.heap.size w w') : XE w' Z t x := exP_stay (fun _ h => ⟨Nat.lt_of_lt_of_le h.1 hb.size, h.2⟩) (stay_below hb (fun _ h => h.1)) _ _ h
theorem XE.alloc {w : World} {Z : Nat → Prop} {t : Ex} {x : XV} (h : XE w Z t x) (o : Obj) : XE (w.alloc o) (· = w.heap.size) t x :=
  exP_stay (fun b h => ⟨by simp; omega, fun e => by have e' : b = w.heap.size := e; omega⟩) (stay_below ((Below.refl _ _).alloc (Nat.le_refl _) _) (fun _ h => h.1)) _ _ h
theorem XE.x {w : World} {Z : Nat → Prop} {t : Ex} {x : XV} (h : XE w Z t x) : XAt w t x := exAt_of (fun _ h => h.1) _ _ h
theorem xE_of {w : World} {t : Ex} {x : XV} (h : XAt w t x) : XE w (fun _ => False) t x := exP_stay (fun _ h => ⟨h, fun e => e⟩) (stay_refl _ _) _ _ (exP_of _ _ h)
theorem leaf_e (w : World) (Z : Nat → Prop) (k : Int) (n m : ByteArray) (i d : Int) : XE w Z (.mk k n m i d []) ⟨k, n, m, i, d, none, 0, 0⟩ := exP_iff.2 ⟨_, rfl, ⟨none, 0, rfl, Nat.le_refl _, fun h => by simp [Ex.sub] at h⟩⟩
def set6 (A : World) (g : Nat) (x : XV) : World := (((((A.setCell ⟨g, 0, none⟩ (.int .i64 x.k)).setCell ⟨g, 1, none⟩ (.string x.n)).setCell ⟨g, 2, none⟩ (.string x.m)).setCell ⟨g, 3, none⟩ (.int .i64 x.i)).setCell ⟨g, 4, none⟩ (.int .i64 x.d)).setCell ⟨g, 5, none⟩ (.slice x.p x.q x.c)
theorem set6_block (A : World) (g : Nat) (x : XV) (b : Nat) (h : b ≠ g) : (set6 A g x).heap[b]? = A.heap[b]? := (Below.heap_setCell _ _ _ _ h).trans ((Below.heap_setCell _ _ _ _ h).trans ((Below.heap_setCell _ _ _ _ h).trans ((Below.heap_setCell _ _ _ _ h).trans ((Below.heap_setCell _ _ _ _ h).trans (Below.heap_setCell _ _ _ _ h)))))
theorem set6_size (A : World) (g : Nat) (x : XV) : (set6 A g x).heap.size = A.heap.size := by simp [set6, World.setCell]
theorem XE.set {w : World} {g : Nat} {t : Ex} {x : XV} (h : XE w (· = g) t x) (y : XV) : XE (set6 w g y) (· = g) t x := by
  have hst : StayP (fun b => b < w.heap.size ∧ ¬ b = g) w (set6 w g y) := fun b off hb v hv => by
    unfold set6
    rw [stay6 _ _ _ _ _ _ b off hb.2]; exact hv
  unfold XE
  rw [set6_size]
  exact exP_stay (fun _ h => h) hst _ _ h
theorem Bx.set {W : World} {b g : Nat} {x : XV} (h : Bx W b x) (y : XV) (hb : b ≠ g) : Bx (set6 W g y) b x := (set6_block W g y b hb).trans h
/-- a zero expression in a box -/
def Bz (W : World) (b : Nat) : Prop := W.heap[b]? = some (.cells zeroE 24 (0, 0))
theorem Bz.lt {W : World} {b : Nat} (h : Bz W b) : b < W.heap.size := (Array.getElem?_eq_some_iff.1 h).1
theorem Bz.kept {W W' : World} {b : Nat} (h : Bz W b) (hb : Below W.heap.size W W') : Bz W' b := (hb.block _ h.lt).trans h
theorem Bz.new (W : World) : Bz (W.alloc (.cells zeroE 24)) W.heap.size := World.alloc_heap_new W _
theorem Bz.set {W : World} {g : Nat} (h : Bz W g) (y : XV) : Bx (set6 W g y) g y := by
  have h1 := setCell_row (o := 5) (.slice y.p y.q y.c) (setCell_row (o := 4) (.int .i64 y.d) (setCell_row (o := 3) (.int .i64 y.i) (setCell_row (o := 2) (.string y.m) (setCell_row (o := 1) (.string y.n) (setCell_row (o := 0) (.int .i64 y.k) h)))))
  unfold Bx set6; exact h1
theorem below_set6 {w A : World} {B : Nat} (h : Below B w A) {g : Nat} (hg : B ≤ g) (x : XV) : Below B w (set6 A g x) := below6 h hg _ _ _ _ _ _
theorem xE_sub {w : World} {Z : Nat → Prop} {t : Ex} {x : XV} (h : XE w Z t x) : x = ⟨t.kind, t.name, t.more, t.int, t.den, x.p, t.sub.length, x.c⟩ ∧ SubP w (fun b => b < w.heap.size ∧ ¬ Z b) t.sub (.slice x.p t.sub.length x.c) := by
  obtain ⟨sv, he, hs⟩ := exP_iff.1 h
  obtain ⟨k, n, m, i, d, p, q, c⟩ := x
  obtain ⟨p', c', rfl, hc, hr⟩ := id hs
  simp only [XV.arr, Value.agg.injEq, Array.mk.injEq, List.cons.injEq, and_true, Value.int.injEq, Value.string.injEq, Value.slice.injEq, true_and] at he
  obtain ⟨rfl, rfl, rfl, rfl, rfl, rfl, rfl, rfl⟩ := he
  exact ⟨rfl, hs⟩
theorem two_subE {W : World} {Z : Nat → Prop} {a b : Ex} {xa xb : XV} {g : Nat} (ha : XE W Z a xa) (hb : XE W Z b xb) (hr : W.heap[g]? = some (.cells #[.int .i64 xa.k, .string xa.n, .string xa.m, .int .i64 xa.i, .int .i64 xa.d, .slice xa.p xa.q xa.c, .int .i64 xb.k, .string xb.n, .string xb.m, .int .i64 xb.i, .int .i64 xb.d, .slice xb.p xb.q xb.c] 24 (0, 0))) (hZ : ¬ Z g) :
    SubP W (fun b => b < W.heap.size ∧ ¬ Z b) [a, b] (.slice (some ⟨g, 0, none⟩) 2 2) := by
  obtain ⟨ea, ha⟩ := xE_sub ha
  obtain ⟨eb, hb⟩ := xE_sub hb
  rw [ea, eb] at hr
  refine ⟨_, 2, rfl, Nat.le_refl _, fun _ => ⟨g, 0, rfl, ⟨(Array.getElem?_eq_some_iff.1 hr).1, hZ⟩, rowP_cons.2 ⟨⟨_, ?_, ?_, ?_, ?_, ?_, ?_, ha⟩, rowP_cons.2 ⟨⟨_, ?_, ?_, ?_, ?_, ?_, ?_, hb⟩, rowP_nil⟩⟩⟩⟩ <;> simp [World.cell?, hr]
theorem newP_Z {w w' : World} {Z : Nat → Prop} (hb : Below w.heap.size w w') (hZ : ∀ b, Z b → b < w.heap.size) : ∀ b, NewP (fun b => b < w.heap.size ∧ ¬ Z b) w w' b → b < w'.heap.size ∧ ¬ Z b := fun b h => by
  have := hb.size
  rcases h with h | h
  · exact ⟨by omega, h.2⟩
  · exact ⟨h.2, fun e => by have := hZ b e; omega⟩
theorem xE_of_ex {w : World} {Z : Nat → Prop} {t : Ex} {v : Value} (h : ExP w (fun b => b < w.heap.size ∧ ¬ Z b) t v) : ∃ x : XV, v = .agg x.arr ∧ XE w Z t x := by
  obtain ⟨sv, rfl, hs⟩ := exP_iff.1 h
  obtain ⟨p', c', rfl, hc, hr⟩ := id hs
  exact ⟨⟨t.kind, t.name, t.more, t.int, t.den, p', t.sub.length, c'⟩, rfl, h⟩
theorem mMerge_e {Z : Nat → Prop} {b l r : Ex} {xb xl xr : XV} {w : World} (hb : XE w Z b xb) (hl : XE w Z l xl) (hr : XE w Z r xr) (hsz : 2 * nodesE b + nodesE l + nodesE r ≤ 1048000) (hZ : ∀ b, Z b → b < w.heap.size) :
    Calls Tryd.prog 12 #[.agg xb.arr, .agg xl.arr, .agg xr.arr] w (RetE2 w Z (mergeX b l r)) := by
  obtain ⟨eb, hb⟩ := xE_sub hb
  obtain ⟨el, hl⟩ := xE_sub hl
  obtain ⟨er, hr⟩ := xE_sub hr
  rw [eb, el, er]
  rw [nodesE_eq, nodesE_eq l, nodesE_eq r] at hsz
  have h := mMerge_any b.kind b.name b.more b.int b.den b.sub xb.p xb.c l.kind l.name l.more l.int l.den l.sub xl.p xl.c r.kind r.name r.more r.int r.den r.sub xr.p xr.c (fun b => b < w.heap.size ∧ ¬ Z b) w (fun _ h => h.1) (by omega) (by omega) (by omega) hb hl hr (by omega)
  rw [Ex.eta, Ex.eta, Ex.eta] at h
  refine h.mono fun _ _ h => ?_
  obtain ⟨v, rfl, hx, hb⟩ := h
  obtain ⟨x, rfl, hx'⟩ := xE_of_ex (exP_stay (newP_Z hb hZ) (stay_refl _ _) _ _ hx)
  exact ⟨x, rfl, hx', hb⟩
set_option maxRecDepth 100000 in
set_option maxHeartbeats 1000000 in
theorem op_q {Z : Nat → Prop} {nm : ByteArray} {a b : Ex} {xa xb : XV} {w : World} (ha : XE w Z a xa) (hb : XE w Z b xb) (hZ : ∀ b, Z b → b < w.heap.size) :
    Calls Tryd.prog 19 #[.string nm, .agg xa.arr, .agg xb.arr] w (RetE w Z (opE nm a b)) := by
  go_enter Tryd.func19, Tryd.ntmps19
  go_wp2_with fail
  obtain ⟨W, hW⟩ : ∃ W, (((w.alloc (.cells xa.arr 24)).alloc (.cells xb.arr 24)).alloc (.cells #[.int .i64 10, .string nm, .string ⟨#[]⟩, .int .i64 0, .int .i64 0, .slice (some ⟨w.heap.size + 1 + 1 + 1, 0, none⟩) 2 2] 24)).alloc (.cells #[.int .i64 xa.k, .string xa.n, .string xa.m, .int .i64 xa.i, .int .i64 xa.d, .slice xa.p xa.q xa.c, .int .i64 xb.k, .string xb.n, .string xb.m, .int .i64 xb.i, .int .i64 xb.d, .slice xb.p xb.q xb.c] 24) = W := ⟨_, rfl⟩
  have hbW : Below w.heap.size w W := by rw [← hW]; exact ((((Below.refl _ _).alloc (Nat.le_refl _) _).alloc (by simp) _).alloc (by simp; omega) _).alloc (by simp; omega) _
  have b4 := World.alloc_heap_new (((w.alloc (.cells xa.arr 24)).alloc (.cells xb.arr 24)).alloc (.cells #[.int .i64 10, .string nm, .string ⟨#[]⟩, .int .i64 0, .int .i64 0, .slice (some ⟨w.heap.size + 1 + 1 + 1, 0, none⟩) 2 2] 24)) (.cells #[.int .i64 xa.k, .string xa.n, .string xa.m, .int .i64 xa.i, .int .i64 xa.d, .slice xa.p xa.q xa.c, .int .i64 xb.k, .string xb.n, .string xb.m, .int .i64 xb.i, .int .i64 xb.d, .slice xb.p xb.q xb.c] 24)
  have b3 := (Bx.new ((w.alloc (.cells xa.arr 24)).alloc (.cells xb.arr 24)) ⟨10, nm, ⟨#[]⟩, 0, 0, some ⟨w.heap.size + 1 + 1 + 1, 0, none⟩, 2, 2⟩).alloc (.cells #[.int .i64 xa.k, .string xa.n, .string xa.m, .int .i64 xa.i, .int .i64 xa.d, .slice xa.p xa.q xa.c, .int .i64 xb.k, .string xb.n, .string xb.m, .int .i64 xb.i, .int .i64 xb.d, .slice xb.p xb.q xb.c] 24)
  simp only [World.size_alloc] at b4 b3
  rw [hW] at b4 b3 ⊢
  obtain ⟨z0, z1, z2, z3, z4, z5⟩ := b3.cells
  refine bodyPost_ret (v := .agg #[.int .i64 10, .string nm, .string ⟨#[]⟩, .int .i64 0, .int .i64 0, .slice (some ⟨w.heap.size + 1 + 1 + 1, 0, none⟩) 2 2]) (by simp [results, Tryd.results19, go_sem, z0, z1, z2, z3, z4, z5]) rfl ⟨⟨10, nm, ⟨#[]⟩, 0, 0, some ⟨w.heap.size + 1 + 1 + 1, 0, none⟩, 2, 2⟩, rfl, ?_, hbW⟩
  exact exP_iff.2 ⟨_, rfl, two_subE (ha.kept hbW) (hb.kept hbW) b4 (fun h => by have := hZ _ h; omega)⟩
/-- one of the expressions has the property -/
def anyE (f : Ex → Bool) (l : List Ex) : Bool := l.any f
theorem any_take_succ (l : List Ex) (f : Ex → Bool) (j : Nat) (h : j < l.length) : anyE f (l.take (j + 1)) = (anyE f (l.take j) || f l[j]) := by
  unfold anyE; rw [List.take_succ_eq_append_getElem h, List.any_append]; simp
theorem any_of_take {l : List Ex} {f : Ex → Bool} {j : Nat} (h : j < l.length) (hf : f l[j] = true) : anyE f l = true := List.any_eq_true.2 ⟨_, List.getElem_mem h, hf⟩
/-- the element j of a slice of expressions, as a value -/
theorem elem_x {w wr : World} {sub : List Ex} {p : Option Addr} {n cap : Nat} (h : SubAt w w.heap.size sub (.slice p n cap)) (hb : Below w.heap.size w wr) (j : Nat) (hj : j < sub.length) :
    ∃ b off, ∃ x : XV, p = some ⟨b, off, none⟩ ∧ wr.cell? ⟨b, off + j * 6, none⟩ = some (.int .i64 x.k) ∧ wr.cell? ⟨b, off + j * 6 + 1, none⟩ = some (.string x.n) ∧ wr.cell? ⟨b, off + j * 6 + 2, none⟩ = some (.string x.m) ∧ wr.cell? ⟨b, off + j * 6 + 3, none⟩ = some (.int .i64 x.i) ∧
      wr.cell? ⟨b, off + j * 6 + 4, none⟩ = some (.int .i64 x.d) ∧ wr.cell? ⟨b, off + j * 6 + 5, none⟩ = some (.slice x.p x.q x.c) ∧ XAt wr sub[j] x := by
  obtain ⟨b, off, cv, hp, h0, h1, h2, h3, h4, h5, h6⟩ := subAt_at h hb j hj
  obtain ⟨p', c', rfl, hc, hr⟩ := id h6
  exact ⟨b, off, ⟨_, _, _, _, _, p', _, c'⟩, hp, h0, h1, h2, h3, h4, h5, exAt_iff.2 ⟨_, rfl, h6⟩⟩
def GRel (w : World) (l : List Ex) (f : Ex → Bool) (i : Value) (wr : World) : Prop := ∃ j : Nat, j ≤ l.length ∧ i = .int .i64 j ∧ Below w.heap.size w wr ∧ anyE f (l.take j) = false
set_option maxRecDepth 100000 in
set_option maxHeartbeats 2000000 in
theorem great_x {l : List Ex} {sv : Value} {w : World} (hs : SubAt w w.heap.size l sv) (hsz : nodesL l ≤ 1048576) :
    Calls Tryd.prog 10 #[sv] w fun e w' => e = .returned (.bool (anyE greatE l)) ∧ Below w.heap.size w w' := by
  obtain ⟨p, cap, rfl, hcap, _⟩ := subAt_open hs
  have hln := length_le_nodesL l
  have HS := Lib.hid hs
  clear hs
  go_enter Tryd.func10, Tryd.ntmps10
  go_wp2_with fail
  go_loopw [7] (fun i wr => GRel w l greatE i wr) (fun i _ => l.length - (intOf i).toNat)
  case atStart => exact ⟨0, by omega, rfl, Below.refl _ _, by simp [anyE]⟩
  case round =>
    obtain ⟨j, hj, rfl, hb, hno⟩ := hrel
    have HNO := Lib.hid hno
    have HB := Lib.hid hb
    have hbz := hb.size
    clear hno hb
    by_cases hlt : j < l.length
    · obtain ⟨b, off, x, rfl, g0, g1, g2, g3, g4, g5, hx⟩ := elem_x HS.out HB.out j hlt
      have hn1 := nodesL_get l j hlt
      have HC := Lib.hid (rGreat_x (hx.alloc (.cells x.arr 24)) (by omega))
      have HA : Hid (Below wr.heap.size wr (wr.alloc (.cells x.arr 24))) := Lib.hid ((Below.refl _ _).alloc (Nat.le_refl _) _)
      have k0 : (0 : Int) ≤ (j : Int) := by omega
      have k1 : (j : Int) < (l.length : Int) := by omega
      have HT := Lib.hid (any_take_succ l greatE j hlt)
      have HT2 := Lib.hid (fun h => any_of_take (f := greatE) hlt h)
      clear hx
      obtain ⟨gj, hgj⟩ : ∃ gj, greatE l[j] = gj := ⟨_, rfl⟩
      rw [hgj] at HC HT HT2
      clear hgj
      cases gj with
      | true =>
        go_wp2_with fail
        refine (HC.out).mono ?_
        rintro e W2 ⟨rfl, hb2⟩
        go_wp2_with fail
        go_ret
        exact ⟨by rw [HT2.out (by trivial)]; rfl, HB.out.trans ((HA.out.trans (hb2.mono (by simp))).mono hbz)⟩
      | false =>
        go_wp2_with fail
        refine (HC.out).mono ?_
        rintro e W2 ⟨rfl, hb2⟩
        go_wp2_with fail
        go_roundw
        case rel => exact ⟨j + 1, by omega, by go_num, HB.out.trans ((HA.out.trans (hb2.mono (by simp))).mono hbz), by rw [HT.out, HNO.out]; rfl⟩
        case measure => simp [intOf]; omega
    · obtain rfl : j = l.length := by omega
      go_wp2_with fail
      go_ret
      exact ⟨by have h := HNO.out; rw [List.take_length] at h; rw [h]; rfl, HB.out⟩
def unfineE (t : Ex) : Bool := greatE t || decide (checkX t ≠ 0) || !(confE t == 0)
set_option maxRecDepth 100000 in
set_option maxHeartbeats 4000000 in
theorem fine_x {l : List Ex} {sv : Value} {w : World} (hs : SubAt w w.heap.size l sv) (hsz : nodesL l ≤ 1048576) :
    Calls Tryd.prog 16 #[sv] w fun e w' => e = .returned (.bool (!anyE unfineE l)) ∧ Below w.heap.size w w' := by
  obtain ⟨p, cap, rfl, hcap, _⟩ := subAt_open hs
  have hln := length_le_nodesL l
  have HS := Lib.hid hs
  clear hs
  go_enter Tryd.func16, Tryd.ntmps16
  go_wp2_with fail
  go_loopw [7] (fun i wr => GRel w l unfineE i wr) (fun i _ => l.length - (intOf i).toNat)
  case atStart => exact ⟨0, by omega, rfl, Below.refl _ _, by simp [anyE]⟩
  case round =>
    obtain ⟨j, hj, rfl, hb, hno⟩ := hrel
    have HNO := Lib.hid hno
    have HB := Lib.hid hb
    have hbz := hb.size
    clear hno hb
    by_cases hlt : j < l.length
    · obtain ⟨b, off, x, rfl, g0, g1, g2, g3, g4, g5, hx⟩ := elem_x HS.out HB.out j hlt
      have hn1 := nodesL_get l j hlt
      have hx1 := hx.alloc (.cells x.arr 24)
      have hbx := Bx.new wr x
      have hA : Below wr.heap.size wr (wr.alloc (.cells x.arr 24)) := (Below.refl _ _).alloc (Nat.le_refl _) _
      obtain ⟨W1, hW1⟩ : ∃ W1, wr.alloc (.cells x.arr 24) = W1 := ⟨_, rfl⟩
      rw [hW1] at hx1 hbx hA
      have HW1 := Lib.hid hW1
      have HX1 := Lib.hid hx1
      have HBX := Lib.hid hbx
      have HC := Lib.hid (rGreat_x hx1 (by omega))
      have HA := Lib.hid hA
      have k0 : (0 : Int) ≤ (j : Int) := by omega
      have k1 : (j : Int) < (l.length : Int) := by omega
      have HT := Lib.hid (any_take_succ l unfineE j hlt)
      have HT2 := Lib.hid (fun h => any_of_take (f := unfineE) hlt h)
      have HU : Hid (unfineE l[j] = (greatE l[j] || decide (checkX l[j] ≠ 0) || !(confE l[j] == 0))) := Lib.hid rfl
      clear hx hx1 hbx hA hW1
      obtain ⟨gj, hgj⟩ : ∃ gj, greatE l[j] = gj := ⟨_, rfl⟩
      rw [hgj] at HC HU
      clear hgj
      cases gj with
      | true =>
        go_wp2_with fail
        rw [HW1.out]
        refine (HC.out).mono ?_
        rintro e W2 ⟨rfl, hb2⟩
        go_wp2_with fail
        go_ret
        exact ⟨by rw [HT2.out (by rw [HU.out]; rfl)]; rfl, HB.out.trans ((HA.out.trans (hb2.mono HA.out.size)).mono hbz)⟩
      | false =>
        go_wp2_with fail
        rw [HW1.out]
        refine (HC.out).mono ?_
        rintro e W2 ⟨rfl, hb2⟩
        have HB2 := Lib.hid hb2
        obtain ⟨y0, y1, y2, y3, y4, y5⟩ := (HBX.out.kept hb2).cells
        have HC2 := Lib.hid (rCheckExpr_x (HX1.out.kept hb2) (by omega))
        obtain ⟨cj, hcj⟩ : ∃ cj, checkX l[j] = cj := ⟨_, rfl⟩
        rw [hcj] at HC2 HU
        clear hcj hb2
        by_cases hc0 : cj = 0
        · subst hc0
          go_wp2_with fail
          refine (HC2.out).mono ?_
          rintro e W3 ⟨rfl, hb3⟩
          have HB3 := Lib.hid hb3
          clear y0 y1 y2 y3 y4 y5
          obtain ⟨y0, y1, y2, y3, y4, y5⟩ := ((HBX.out.kept HB2.out).kept hb3).cells
          have HC3 := Lib.hid (rClean_x ((HX1.out.kept HB2.out).kept hb3) (by omega))
          clear hb3
          obtain ⟨dj, hdj⟩ : ∃ dj, (confE l[j] == 0) = dj := ⟨_, rfl⟩
          rw [hdj] at HC3 HU
          clear hdj
          have hs2 := HA.out.size
          have hs3 := HB2.out.size
          have hs4 := HB3.out.size
          have HBW : Hid (Below w.heap.size w W3) := Lib.hid (HB.out.trans ((HA.out.mono (by omega)).trans ((HB2.out.mono (by omega)).trans (HB3.out.mono (by omega)))))
          cases dj with
          | false =>
            go_wp2_with fail
            refine (HC3.out).mono ?_
            rintro e W4 ⟨rfl, hb4⟩
            go_wp2_with fail
            go_ret
            exact ⟨by rw [HT2.out (by rw [HU.out]; rfl)]; rfl, HBW.out.trans (hb4.mono (by omega))⟩
          | true =>
            go_wp2_with fail
            refine (HC3.out).mono ?_
            rintro e W4 ⟨rfl, hb4⟩
            go_wp2_with fail
            go_roundw
            case rel => exact ⟨j + 1, by omega, by go_num, HBW.out.trans (hb4.mono (by omega)), by rw [HT.out, HNO.out, HU.out]; rfl⟩
            case measure => simp [intOf]; omega
        · have hc1 : (cj != 0) = true := by simpa using hc0
          have HC0 := Lib.hid hc0
          clear hc0
          go_wp2_with fail
          refine (HC2.out).mono ?_
          rintro e W3 ⟨rfl, hb3⟩
          go_wp2_with fail
          go_ret
          have hs2 := HA.out.size
          have hs3 := HB2.out.size
          exact ⟨by rw [HT2.out (by rw [HU.out]; simp [HC0.out])]; rfl, HB.out.trans ((HA.out.mono (by omega)).trans ((HB2.out.mono (by omega)).trans (hb3.mono (by omega))))⟩
    · obtain rfl : j = l.length := by omega
      go_wp2_with fail
      go_ret
      exact ⟨by have h := HNO.out; rw [List.take_length] at h; rw [h]; rfl, HB.out⟩
end Go.Proofs.YtiagjpiclnmpkaaDoor

namespace Go.Proofs.YtiagjpiclnmpkaaDoor
open Go.RowKit

abbrev exA : Ex := .mk 3 ⟨#[97]⟩ ⟨#[]⟩ 0 0 []
abbrev exB : Ex := .mk 3 ⟨#[98]⟩ ⟨#[]⟩ 0 0 []
abbrev exO : Ex := .mk 1 ⟨#[]⟩ ⟨#[]⟩ 1 0 []
abbrev exT : Ex := .mk 1 ⟨#[]⟩ ⟨#[]⟩ 2 0 []
theorem aw1 : mergeX (opE ⟨#[43]⟩ exA exB) (opE ⟨#[43]⟩ exA exO) (opE ⟨#[43]⟩ exT exB) = (opE ⟨#[43]⟩ exT exO, 0) := by kernel_rfl
theorem aw2 : mergeX (opE ⟨#[43]⟩ exA exB) (opE ⟨#[45]⟩ exA exB) (opE ⟨#[43]⟩ exT exB) = (sumE (opE ⟨#[45]⟩ exA exB) (opE ⟨#[43]⟩ exA exB) (opE ⟨#[43]⟩ exT exB), 0) := by kernel_rfl
theorem aw1n : 2 * nodesE (opE ⟨#[43]⟩ exA exB) + nodesE (opE ⟨#[43]⟩ exA exO) + nodesE (opE ⟨#[43]⟩ exT exB) ≤ 1048000 := by simp [opE, nodesE, nodesL]
theorem aw2n : 2 * nodesE (opE ⟨#[43]⟩ exA exB) + nodesE (opE ⟨#[45]⟩ exA exB) + nodesE (opE ⟨#[43]⟩ exT exB) ≤ 1048000 := by simp [opE, nodesE, nodesL]
theorem aw3 : confE (sumE (opE ⟨#[45]⟩ exA exB) (opE ⟨#[43]⟩ exA exB) (opE ⟨#[43]⟩ exT exB)) = 1 := by kernel_rfl
theorem aw4 : confE (opE ⟨#[43]⟩ exT exO) = 0 := by kernel_rfl
theorem leaf_x (w : World) (k : Int) (n m : ByteArray) (i d : Int) : XAt w (.mk k n m i d []) ⟨k, n, m, i, d, none, 0, 0⟩ := exAt_iff.2 ⟨_, rfl, subAt_none _ _⟩
/-- the four examples in their boxes -/
structure Aw (w W : World) : Prop where
  a : Bx W w.heap.size ⟨3, ⟨#[97]⟩, ⟨#[]⟩, 0, 0, none, 0, 0⟩
  b : Bx W (w.heap.size + 1) ⟨3, ⟨#[98]⟩, ⟨#[]⟩, 0, 0, none, 0, 0⟩
  o : Bx W (w.heap.size + 1 + 1) ⟨1, ⟨#[]⟩, ⟨#[]⟩, 1, 0, none, 0, 0⟩
  t : Bx W (w.heap.size + 1 + 1 + 1) ⟨1, ⟨#[]⟩, ⟨#[]⟩, 2, 0, none, 0, 0⟩
  below : Below w.heap.size w W
theorem Aw.kept {w W W' : World} (h : Aw w W) (hb : Below W.heap.size W W') : Aw w W' := ⟨h.a.kept hb, h.b.kept hb, h.o.kept hb, h.t.kept hb, h.below.trans (hb.mono h.below.size)⟩
theorem Aw.held {w w' : World} (h : Aw w w') : w'.cell? ⟨w.heap.size, 0, none⟩ = some (.int .i64 3) ∧ w'.cell? ⟨w.heap.size, 1, none⟩ = some (.string ⟨#[97]⟩) ∧ w'.cell? ⟨w.heap.size, 2, none⟩ = some (.string ⟨#[]⟩) ∧ w'.cell? ⟨w.heap.size, 3, none⟩ = some (.int .i64 0) ∧ w'.cell? ⟨w.heap.size, 4, none⟩ = some (.int .i64 0) ∧ w'.cell? ⟨w.heap.size, 5, none⟩ = some (.slice none 0 0) ∧ w'.cell? ⟨w.heap.size + 1, 0, none⟩ = some (.int .i64 3) ∧ w'.cell? ⟨w.heap.size + 1, 1, none⟩ = some (.string ⟨#[98]⟩) ∧ w'.cell? ⟨w.heap.size + 1, 2, none⟩ = some (.string ⟨#[]⟩) ∧ w'.cell? ⟨w.heap.size + 1, 3, none⟩ = some (.int .i64 0) ∧ w'.cell? ⟨w.heap.size + 1, 4, none⟩ = some (.int .i64 0) ∧ w'.cell? ⟨w.heap.size + 1, 5, none⟩ = some (.slice none 0 0) ∧ w'.cell? ⟨w.heap.size + 1 + 1, 0, none⟩ = some (.int .i64 1) ∧ w'.cell? ⟨w.heap.size + 1 + 1, 1, none⟩ = some (.string ⟨#[]⟩) ∧ w'.cell? ⟨w.heap.size + 1 + 1, 2, none⟩ = some (.string ⟨#[]⟩) ∧ w'.cell? ⟨w.heap.size + 1 + 1, 3, none⟩ = some (.int .i64 1) ∧ w'.cell? ⟨w.heap.size + 1 + 1, 4, none⟩ = some (.int .i64 0) ∧ w'.cell? ⟨w.heap.size + 1 + 1, 5, none⟩ = some (.slice none 0 0) ∧ w'.cell? ⟨w.heap.size + 1 + 1 + 1, 0, none⟩ = some (.int .i64 1) ∧ w'.cell? ⟨w.heap.size + 1 + 1 + 1, 1, none⟩ = some (.string ⟨#[]⟩) ∧ w'.cell? ⟨w.heap.size + 1 + 1 + 1, 2, none⟩ = some (.string ⟨#[]⟩) ∧ w'.cell? ⟨w.heap.size + 1 + 1 + 1, 3, none⟩ = some (.int .i64 2) ∧ w'.cell? ⟨w.heap.size + 1 + 1 + 1, 4, none⟩ = some (.int .i64 0) ∧ w'.cell? ⟨w.heap.size + 1 + 1 + 1, 5, none⟩ = some (.slice none 0 0) :=
  ⟨h.a.cells.1, h.a.cells.2.1, h.a.cells.2.2.1, h.a.cells.2.2.2.1, h.a.cells.2.2.2.2.1, h.a.cells.2.2.2.2.2, h.b.cells.1, h.b.cells.2.1, h.b.cells.2.2.1, h.b.cells.2.2.2.1, h.b.cells.2.2.2.2.1, h.b.cells.2.2.2.2.2, h.o.cells.1, h.o.cells.2.1, h.o.cells.2.2.1, h.o.cells.2.2.2.1, h.o.cells.2.2.2.2.1, h.o.cells.2.2.2.2.2, h.t.cells.1, h.t.cells.2.1, h.t.cells.2.2.1, h.t.cells.2.2.2.1, h.t.cells.2.2.2.2.1, h.t.cells.2.2.2.2.2⟩
theorem Aw.alloc {w W : World} (h : Aw w W) (o : Obj) : Aw w (W.alloc o) := h.kept ((Below.refl _ _).alloc (Nat.le_refl _) _)
theorem Aw.set {w W : World} {g : Nat} (h : Aw w W) (hg : w.heap.size + 1 + 1 + 1 < g) (y : XV) : Aw w (set6 W g y) :=
  ⟨h.a.set y (by omega), h.b.set y (by omega), h.o.set y (by omega), h.t.set y (by omega), below_set6 h.below (by omega) y⟩
/-- the four examples, and one more expression, in their boxes -/
structure Aw2 (w : World) (g5 : Nat) (x5 : XV) (t5 : Ex) (Z : Nat → Prop) (W : World) : Prop where
  aw : Aw w W
  bx : Bx W g5 x5
  xe : XE W Z t5 x5
theorem Aw2.kept {w : World} {g5 : Nat} {x5 : XV} {t5 : Ex} {Z : Nat → Prop} {W W' : World} (h : Aw2 w g5 x5 t5 Z W) (hb : Below W.heap.size W W') : Aw2 w g5 x5 t5 Z W' := ⟨h.aw.kept hb, h.bx.kept hb, h.xe.kept hb⟩
theorem Aw2.alloc {w : World} {g5 : Nat} {x5 : XV} {t5 : Ex} {Z : Nat → Prop} {W : World} (h : Aw2 w g5 x5 t5 Z W) (o : Obj) : Aw2 w g5 x5 t5 (· = W.heap.size) (W.alloc o) := ⟨h.aw.alloc o, h.bx.alloc o, h.xe.alloc o⟩
theorem Aw2.set {w : World} {g5 : Nat} {x5 : XV} {t5 : Ex} {g : Nat} {W : World} (h : Aw2 w g5 x5 t5 (· = g) W) (y : XV) (hg : w.heap.size + 1 + 1 + 1 < g ∧ g5 ≠ g) : Aw2 w g5 x5 t5 (· = g) (set6 W g y) := ⟨h.aw.set hg.1 y, h.bx.set y hg.2, h.xe.set y⟩
theorem Aw2.gt {w : World} {g5 : Nat} {x5 : XV} {t5 : Ex} {Z : Nat → Prop} {W : World} (h : Aw2 w g5 x5 t5 Z W) : w.heap.size + 1 + 1 + 1 < W.heap.size ∧ g5 ≠ W.heap.size := ⟨h.aw.t.lt, by have := h.bx.lt; omega⟩
theorem zA (W : World) (o : Obj) : ∀ b, b = W.heap.size → b < (W.alloc o).heap.size := fun b h => by rw [h]; simp
theorem zZ {W : World} {g : Nat} (h : Bz W g) : ∀ b, b = g → b < W.heap.size := fun b e => by rw [e]; exact h.lt
theorem Aw2.held5 {w : World} {g5 g7 : Nat} {x5 : XV} {t5 : Ex} {Z : Nat → Prop} {w' : World} {p7 : Option Addr} {c7 : Nat} (h : Aw2 w g5 x5 t5 Z w') (h7 : Bx w' g7 ⟨15, ⟨#[]⟩, ⟨#[]⟩, 0, 0, p7, 3, c7⟩) : w'.cell? ⟨w.heap.size + 1 + 1, 0, none⟩ = some (.int .i64 1) ∧ w'.cell? ⟨w.heap.size + 1 + 1, 1, none⟩ = some (.string ⟨#[]⟩) ∧ w'.cell? ⟨w.heap.size + 1 + 1, 2, none⟩ = some (.string ⟨#[]⟩) ∧ w'.cell? ⟨w.heap.size + 1 + 1, 3, none⟩ = some (.int .i64 1) ∧ w'.cell? ⟨w.heap.size + 1 + 1, 4, none⟩ = some (.int .i64 0) ∧ w'.cell? ⟨w.heap.size + 1 + 1, 5, none⟩ = some (.slice none 0 0) ∧ w'.cell? ⟨w.heap.size + 1 + 1 + 1, 0, none⟩ = some (.int .i64 1) ∧ w'.cell? ⟨w.heap.size + 1 + 1 + 1, 1, none⟩ = some (.string ⟨#[]⟩) ∧ w'.cell? ⟨w.heap.size + 1 + 1 + 1, 2, none⟩ = some (.string ⟨#[]⟩) ∧ w'.cell? ⟨w.heap.size + 1 + 1 + 1, 3, none⟩ = some (.int .i64 2) ∧ w'.cell? ⟨w.heap.size + 1 + 1 + 1, 4, none⟩ = some (.int .i64 0) ∧ w'.cell? ⟨w.heap.size + 1 + 1 + 1, 5, none⟩ = some (.slice none 0 0) ∧ w'.cell? ⟨g5, 0, none⟩ = some (.int .i64 x5.k) ∧ w'.cell? ⟨g5, 1, none⟩ = some (.string x5.n) ∧ w'.cell? ⟨g5, 2, none⟩ = some (.string x5.m) ∧ w'.cell? ⟨g5, 3, none⟩ = some (.int .i64 x5.i) ∧ w'.cell? ⟨g5, 4, none⟩ = some (.int .i64 x5.d) ∧ w'.cell? ⟨g5, 5, none⟩ = some (.slice x5.p x5.q x5.c) ∧ w'.cell? ⟨g7, 0, none⟩ = some (.int .i64 15) ∧ w'.cell? ⟨g7, 1, none⟩ = some (.string ⟨#[]⟩) ∧ w'.cell? ⟨g7, 2, none⟩ = some (.string ⟨#[]⟩) ∧ w'.cell? ⟨g7, 3, none⟩ = some (.int .i64 0) ∧ w'.cell? ⟨g7, 4, none⟩ = some (.int .i64 0) ∧ w'.cell? ⟨g7, 5, none⟩ = some (.slice p7 3 c7) :=
  ⟨h.aw.o.cells.1, h.aw.o.cells.2.1, h.aw.o.cells.2.2.1, h.aw.o.cells.2.2.2.1, h.aw.o.cells.2.2.2.2.1, h.aw.o.cells.2.2.2.2.2, h.aw.t.cells.1, h.aw.t.cells.2.1, h.aw.t.cells.2.2.1, h.aw.t.cells.2.2.2.1, h.aw.t.cells.2.2.2.2.1, h.aw.t.cells.2.2.2.2.2, h.bx.cells.1, h.bx.cells.2.1, h.bx.cells.2.2.1, h.bx.cells.2.2.2.1, h.bx.cells.2.2.2.2.1, h.bx.cells.2.2.2.2.2, h7.cells.1, h7.cells.2.1, h7.cells.2.2.1, h7.cells.2.2.2.1, h7.cells.2.2.2.2.1, h7.cells.2.2.2.2.2⟩
theorem sum_form {W : World} {l b r : Ex} {x : XV} (h : XAt W (sumE l b r) x) : ∃ p c, x = ⟨15, ⟨#[]⟩, ⟨#[]⟩, 0, 0, p, 3, c⟩ := ⟨x.p, x.c, (xAt_sub h).1⟩
theorem aw_same {w : World} {x y : XV} (hx : XAt w (opE ⟨#[43]⟩ exT exO) x) (hy : XAt w (opE ⟨#[43]⟩ exT exO) y) : Calls Tryd.prog 14 #[.agg x.arr, .agg y.arr] w fun e w' => e = .returned (.bool true) ∧ Below w.heap.size w w' := by
  have h := rSame_x hx hy (by simp [opE, nodesE, nodesL])
  rw [sameE_refl] at h; exact h
theorem aw_conf {w : World} {x : XV} (hx : XAt w (sumE (opE ⟨#[45]⟩ exA exB) (opE ⟨#[43]⟩ exA exB) (opE ⟨#[43]⟩ exT exB)) x) : Calls Tryd.prog 25 #[.agg x.arr] w fun e w' => e = .returned (.int .i64 1) ∧ Below w.heap.size w w' := by
  have h := mConflicts_x hx (by simp [sumE, opE, nodesE, nodesL])
  rw [aw3] at h; exact h
theorem aw_clean {w : World} {x : XV} (hx : XAt w (opE ⟨#[43]⟩ exT exO) x) : Calls Tryd.prog 20 #[.agg x.arr] w fun e w' => e = .returned (.bool true) ∧ Below w.heap.size w w' := by
  have h := mClean_x hx (by simp [opE, nodesE, nodesL])
  rw [aw4] at h; exact h
def AwC (w : World) (g5 : Nat) (x5 : XV) (t5 t : Ex) (sp se : Value) (W : World) : Prop := ∃ g x, sp = .pointer (some ⟨g, 0, none⟩) ∧ se = .int .i64 0 ∧ Aw2 w g5 x5 t5 (fun _ => False) W ∧ Bx W g x ∧ XAt W t x
theorem Aw2.nil {w : World} {g5 : Nat} {x5 : XV} {t5 : Ex} {Z : Nat → Prop} {W : World} (h : Aw2 w g5 x5 t5 Z W) : Aw2 w g5 x5 t5 (fun _ => False) W := ⟨h.aw, h.bx, xE_of h.xe.x⟩
theorem awC_last {w : World} {g5 : Nat} {x5 : XV} {t5 : Ex} {Z : Nat → Prop} {W : World} {t : Ex} {x : XV} (h : Aw2 w g5 x5 t5 Z W) (hx : XE W Z t x) : AwC w g5 x5 t5 t (.pointer (some ⟨W.heap.size, 0, none⟩)) (.int .i64 0) (W.alloc (.cells x.arr 24)) :=
  ⟨_, x, rfl, rfl, (h.alloc _).nil, Bx.new _ _, (hx.alloc _).x⟩
theorem awC_set {w : World} {g5 : Nat} {x5 : XV} {t5 : Ex} {g : Nat} {W : World} {t : Ex} {x : XV} (h : Aw2 w g5 x5 t5 (· = g) W) (hx : XE W (· = g) t x) (hz : Bz W g) (hg : w.heap.size + 1 + 1 + 1 < g ∧ g5 ≠ g) : AwC w g5 x5 t5 t (.pointer (some ⟨g, 0, none⟩)) (.int .i64 0) (set6 W g x) :=
  ⟨_, x, rfl, rfl, (h.set x hg).nil, hz.set x, (hx.set x).x⟩
theorem Aw.two {w W : World} (h : Aw w W) : Aw2 w w.heap.size ⟨3, ⟨#[97]⟩, ⟨#[]⟩, 0, 0, none, 0, 0⟩ exA (fun _ => False) W := ⟨h, h.a, leaf_e _ _ _ _ _ _ _⟩
set_option maxRecDepth 100000 in
set_option maxHeartbeats 8000000 in
theorem awake_x (w : World) : Calls Tryd.prog 11 #[] w fun e w' => e = .returned (.bool true) ∧ Below w.heap.size w w' := by
  obtain ⟨W, hW⟩ : ∃ W, (((w.alloc (.cells #[.int .i64 3, .string ⟨#[97]⟩, .string ⟨#[]⟩, .int .i64 0, .int .i64 0, .slice none 0 0] 24)).alloc (.cells #[.int .i64 3, .string ⟨#[98]⟩, .string ⟨#[]⟩, .int .i64 0, .int .i64 0, .slice none 0 0] 24)).alloc (.cells #[.int .i64 1, .string ⟨#[]⟩, .string ⟨#[]⟩, .int .i64 1, .int .i64 0, .slice none 0 0] 24)).alloc (.cells #[.int .i64 1, .string ⟨#[]⟩, .string ⟨#[]⟩, .int .i64 2, .int .i64 0, .slice none 0 0] 24) = W := ⟨_, rfl⟩
  have hA : Aw w W := by
    have q1 := World.alloc_heap_new w (.cells #[.int .i64 3, .string ⟨#[97]⟩, .string ⟨#[]⟩, .int .i64 0, .int .i64 0, .slice none 0 0] 24)
    have q2 := World.alloc_heap_new (w.alloc (.cells #[.int .i64 3, .string ⟨#[97]⟩, .string ⟨#[]⟩, .int .i64 0, .int .i64 0, .slice none 0 0] 24)) (.cells #[.int .i64 3, .string ⟨#[98]⟩, .string ⟨#[]⟩, .int .i64 0, .int .i64 0, .slice none 0 0] 24)
    have q3 := World.alloc_heap_new ((w.alloc (.cells #[.int .i64 3, .string ⟨#[97]⟩, .string ⟨#[]⟩, .int .i64 0, .int .i64 0, .slice none 0 0] 24)).alloc (.cells #[.int .i64 3, .string ⟨#[98]⟩, .string ⟨#[]⟩, .int .i64 0, .int .i64 0, .slice none 0 0] 24)) (.cells #[.int .i64 1, .string ⟨#[]⟩, .string ⟨#[]⟩, .int .i64 1, .int .i64 0, .slice none 0 0] 24)
    have q4 := World.alloc_heap_new (((w.alloc (.cells #[.int .i64 3, .string ⟨#[97]⟩, .string ⟨#[]⟩, .int .i64 0, .int .i64 0, .slice none 0 0] 24)).alloc (.cells #[.int .i64 3, .string ⟨#[98]⟩, .string ⟨#[]⟩, .int .i64 0, .int .i64 0, .slice none 0 0] 24)).alloc (.cells #[.int .i64 1, .string ⟨#[]⟩, .string ⟨#[]⟩, .int .i64 1, .int .i64 0, .slice none 0 0] 24)) (.cells #[.int .i64 1, .string ⟨#[]⟩, .string ⟨#[]⟩, .int .i64 2, .int .i64 0, .slice none 0 0] 24)
    simp only [World.size_alloc] at q2 q3 q4
    rw [← hW]
    exact ⟨(Below.heap_alloc _ _ _ (by simp <;> omega)).trans ((Below.heap_alloc _ _ _ (by simp <;> omega)).trans ((Below.heap_alloc _ _ _ (by simp)).trans q1)), (Below.heap_alloc _ _ _ (by simp <;> omega)).trans ((Below.heap_alloc _ _ _ (by simp)).trans q2), (Below.heap_alloc _ _ _ (by simp)).trans q3, q4,
      ((((Below.refl _ w).alloc (Nat.le_refl _) _).alloc (by simp) _).alloc (by simp; omega) _).alloc (by simp; omega) _⟩
  have HW := Lib.hid hW
  have HA := Lib.hid ((hA.kept (below_drewE (Below.refl _ _))).two)
  have HAW := Lib.hid hA.two
  clear hW hA
  go_enter Tryd.func11, Tryd.ntmps11
  go_upto_region 3 with (fail)
  rw [HW.out]
  go_cut [5, 6] (fun sp se wx => AwC w w.heap.size ⟨3, ⟨#[97]⟩, ⟨#[]⟩, 0, 0, none, 0, 0⟩ exA (opE ⟨#[43]⟩ exT exO) sp se wx)
  case first =>
    have HAo := HA
    have HAD := Lib.hid ((HAW.out.alloc (.cells zeroE 24)).kept (below_drewE (Below.refl _ _)))
    have HGD := Lib.hid HAW.out.gt
    have HZD := Lib.hid ((Bz.new W).kept (below_drewE (Below.refl _ _)))
    have HZL := Lib.hid (zZ HZD.out)
    go_region_held3 (fun w' => w'.cell? ⟨w.heap.size, 0, none⟩ = some (.int .i64 3) ∧ w'.cell? ⟨w.heap.size, 1, none⟩ = some (.string ⟨#[97]⟩) ∧ w'.cell? ⟨w.heap.size, 2, none⟩ = some (.string ⟨#[]⟩) ∧ w'.cell? ⟨w.heap.size, 3, none⟩ = some (.int .i64 0) ∧ w'.cell? ⟨w.heap.size, 4, none⟩ = some (.int .i64 0) ∧ w'.cell? ⟨w.heap.size, 5, none⟩ = some (.slice none 0 0) ∧ w'.cell? ⟨w.heap.size + 1, 0, none⟩ = some (.int .i64 3) ∧ w'.cell? ⟨w.heap.size + 1, 1, none⟩ = some (.string ⟨#[98]⟩) ∧ w'.cell? ⟨w.heap.size + 1, 2, none⟩ = some (.string ⟨#[]⟩) ∧ w'.cell? ⟨w.heap.size + 1, 3, none⟩ = some (.int .i64 0) ∧ w'.cell? ⟨w.heap.size + 1, 4, none⟩ = some (.int .i64 0) ∧ w'.cell? ⟨w.heap.size + 1, 5, none⟩ = some (.slice none 0 0) ∧ w'.cell? ⟨w.heap.size + 1 + 1, 0, none⟩ = some (.int .i64 1) ∧ w'.cell? ⟨w.heap.size + 1 + 1, 1, none⟩ = some (.string ⟨#[]⟩) ∧ w'.cell? ⟨w.heap.size + 1 + 1, 2, none⟩ = some (.string ⟨#[]⟩) ∧ w'.cell? ⟨w.heap.size + 1 + 1, 3, none⟩ = some (.int .i64 1) ∧ w'.cell? ⟨w.heap.size + 1 + 1, 4, none⟩ = some (.int .i64 0) ∧ w'.cell? ⟨w.heap.size + 1 + 1, 5, none⟩ = some (.slice none 0 0) ∧ w'.cell? ⟨w.heap.size + 1 + 1 + 1, 0, none⟩ = some (.int .i64 1) ∧ w'.cell? ⟨w.heap.size + 1 + 1 + 1, 1, none⟩ = some (.string ⟨#[]⟩) ∧ w'.cell? ⟨w.heap.size + 1 + 1 + 1, 2, none⟩ = some (.string ⟨#[]⟩) ∧ w'.cell? ⟨w.heap.size + 1 + 1 + 1, 3, none⟩ = some (.int .i64 2) ∧ w'.cell? ⟨w.heap.size + 1 + 1 + 1, 4, none⟩ = some (.int .i64 0) ∧ w'.cell? ⟨w.heap.size + 1 + 1 + 1, 5, none⟩ = some (.slice none 0 0))
      (first
        | (with_reducible exact HA.out.aw.held)
        | (with_reducible exact (HA.out.aw.alloc _).held)
        | (with_reducible exact HAD.out.aw.held)
        | (exact (HA.out.set x4 HG.out).aw.held))
      (first
        | (go_at_call 19; (with_reducible refine (op_q (Z := (fun _ => False)) (nm := ⟨#[43]⟩) (leaf_e _ _ 3 ⟨#[97]⟩ ⟨#[]⟩ 0 0) (leaf_e _ _ 3 ⟨#[98]⟩ ⟨#[]⟩ 0 0) (fun _ h => h.elim)).mono ?_); rintro e W1 ⟨x1, rfl, hx, hb⟩; (have HA := Lib.hid (HA.out.kept hb)); (have HX1 := Lib.hid hx); (have HAo := HA); clear hx hb)
        | (go_at_call 19; (with_reducible refine (op_q (Z := (· = W.heap.size)) (nm := ⟨#[43]⟩) (leaf_e _ _ 3 ⟨#[97]⟩ ⟨#[]⟩ 0 0) (leaf_e _ _ 3 ⟨#[98]⟩ ⟨#[]⟩ 0 0) HZL.out).mono ?_); rintro e W1 ⟨x1, rfl, hx, hb⟩; (have HA := Lib.hid (HAD.out.kept hb)); (have HX1 := Lib.hid hx); (have HG := HGD); (have HZ := Lib.hid (HZD.out.kept hb)); (have HAo := HA); clear hx hb)
        | (go_at_call 19; (with_reducible refine (op_q (Z := _) (nm := ⟨#[43]⟩) (leaf_e _ _ 3 ⟨#[97]⟩ ⟨#[]⟩ 0 0) (leaf_e _ _ 1 ⟨#[]⟩ ⟨#[]⟩ 1 0) (zZ HZ.out)).mono ?_); rintro e W2 ⟨x2, rfl, hx, hb⟩; (have HA := Lib.hid (HA.out.kept hb)); (have HX1 := Lib.hid (HX1.out.kept hb)); (have HX2 := Lib.hid hx); (have HZ := Lib.hid (HZ.out.kept hb)); (have HAo := HA); clear hx hb)
        | (go_at_call 19; (with_reducible refine (op_q (Z := (fun _ => False)) (nm := ⟨#[43]⟩) (leaf_e _ _ 3 ⟨#[97]⟩ ⟨#[]⟩ 0 0) (leaf_e _ _ 1 ⟨#[]⟩ ⟨#[]⟩ 1 0) (fun _ h => h.elim)).mono ?_); rintro e W2 ⟨x2, rfl, hx, hb⟩; (have HA := Lib.hid (HA.out.kept hb)); (have HX1 := Lib.hid (HX1.out.kept hb)); (have HX2 := Lib.hid hx); (have HAo := HA); clear hx hb)
        | (go_at_call 19; (with_reducible refine (op_q (Z := (· = W1.heap.size)) (nm := ⟨#[43]⟩) (leaf_e _ _ 3 ⟨#[97]⟩ ⟨#[]⟩ 0 0) (leaf_e _ _ 1 ⟨#[]⟩ ⟨#[]⟩ 1 0) (zA _ _)).mono ?_); rintro e W2 ⟨x2, rfl, hx, hb⟩; (have HA := Lib.hid ((HA.out.alloc _).kept hb)); (have HX1 := Lib.hid ((HX1.out.alloc _).kept hb)); (have HX2 := Lib.hid hx); (have HG := Lib.hid HAo.out.gt); (have HZ := Lib.hid ((Bz.new _).kept hb)); (have HAo := HA); clear hx hb)
        | (go_at_call 19; (with_reducible refine (op_q (Z := _) (nm := ⟨#[43]⟩) (leaf_e _ _ 1 ⟨#[]⟩ ⟨#[]⟩ 2 0) (leaf_e _ _ 3 ⟨#[98]⟩ ⟨#[]⟩ 0 0) (zZ HZ.out)).mono ?_); rintro e W3 ⟨x3, rfl, hx, hb⟩; (have HA := Lib.hid (HA.out.kept hb)); (have HX1 := Lib.hid (HX1.out.kept hb)); (have HX2 := Lib.hid (HX2.out.kept hb)); (have HX3 := Lib.hid hx); (have HZ := Lib.hid (HZ.out.kept hb)); (have HAo := HA); clear hx hb)
        | (go_at_call 19; (with_reducible refine (op_q (Z := (fun _ => False)) (nm := ⟨#[43]⟩) (leaf_e _ _ 1 ⟨#[]⟩ ⟨#[]⟩ 2 0) (leaf_e _ _ 3 ⟨#[98]⟩ ⟨#[]⟩ 0 0) (fun _ h => h.elim)).mono ?_); rintro e W3 ⟨x3, rfl, hx, hb⟩; (have HA := Lib.hid (HA.out.kept hb)); (have HX1 := Lib.hid (HX1.out.kept hb)); (have HX2 := Lib.hid (HX2.out.kept hb)); (have HX3 := Lib.hid hx); (have HAo := HA); clear hx hb)
        | (go_at_call 19; (with_reducible refine (op_q (Z := (· = W2.heap.size)) (nm := ⟨#[43]⟩) (leaf_e _ _ 1 ⟨#[]⟩ ⟨#[]⟩ 2 0) (leaf_e _ _ 3 ⟨#[98]⟩ ⟨#[]⟩ 0 0) (zA _ _)).mono ?_); rintro e W3 ⟨x3, rfl, hx, hb⟩; (have HA := Lib.hid ((HA.out.alloc _).kept hb)); (have HX1 := Lib.hid ((HX1.out.alloc _).kept hb)); (have HX2 := Lib.hid ((HX2.out.alloc _).kept hb)); (have HX3 := Lib.hid hx); (have HG := Lib.hid HAo.out.gt); (have HZ := Lib.hid ((Bz.new _).kept hb)); (have HAo := HA); clear hx hb)
        | (go_at_call 12; (with_reducible refine (mMerge_e (Z := _) HX1.out HX2.out HX3.out aw1n (zZ HZ.out)).mono ?_); rintro e W4 ⟨x4, rfl, hx, hb⟩; (have HA := Lib.hid (HA.out.kept hb)); (have HX1 := Lib.hid (HX1.out.kept hb)); (have HX2 := Lib.hid (HX2.out.kept hb)); (have HX3 := Lib.hid (HX3.out.kept hb)); (have HX4 := Lib.hid hx); (have HZ := Lib.hid (HZ.out.kept hb)); rw [aw1] at HX4; (obtain ⟨z0, z1, z2, z3, z4, z5⟩ := cells6 HZ.out); (obtain ⟨f0, f1, f2, f3, f4, f5⟩ := free6 HZ.out); (have HAo := HA); clear hx hb)
        | (go_at_call 12; (with_reducible refine (mMerge_e (Z := (fun _ => False)) HX1.out HX2.out HX3.out aw1n (fun _ h => h.elim)).mono ?_); rintro e W4 ⟨x4, rfl, hx, hb⟩; (have HA := Lib.hid (HA.out.kept hb)); (have HX1 := Lib.hid (HX1.out.kept hb)); (have HX2 := Lib.hid (HX2.out.kept hb)); (have HX3 := Lib.hid (HX3.out.kept hb)); (have HX4 := Lib.hid hx); rw [aw1] at HX4; (have HAo := HA); clear hx hb)
        | (go_at_call 12; (with_reducible refine (mMerge_e (Z := (· = W3.heap.size)) (HX1.out.alloc _) (HX2.out.alloc _) (HX3.out.alloc _) aw1n (zA _ _)).mono ?_); rintro e W4 ⟨x4, rfl, hx, hb⟩; (have HA := Lib.hid ((HA.out.alloc _).kept hb)); (have HX1 := Lib.hid ((HX1.out.alloc _).kept hb)); (have HX2 := Lib.hid ((HX2.out.alloc _).kept hb)); (have HX3 := Lib.hid ((HX3.out.alloc _).kept hb)); (have HX4 := Lib.hid hx); (have HG := Lib.hid HAo.out.gt); (have HZ := Lib.hid ((Bz.new _).kept hb)); rw [aw1] at HX4; (obtain ⟨z0, z1, z2, z3, z4, z5⟩ := cells6 HZ.out); (obtain ⟨f0, f1, f2, f3, f4, f5⟩ := free6 HZ.out); (have HAo := HA); clear hx hb))
    all_goals (go_wp2_with fail; go_meet; rw [aw1]; first | (with_reducible exact awC_last HA.out HX4.out) | exact awC_set HA.out HX4.out HZ.out HG.out)
  case rest =>
    obtain ⟨g5, x5, rfl, rfl, hA, hB, hX⟩ := hcut
    have HA : Hid (Aw2 w g5 x5 (opE ⟨#[43]⟩ exT exO) (fun _ => False) wc.drew) := Lib.hid (Aw2.kept ⟨hA.aw, hB, xE_of hX⟩ (below_drewE (Below.refl _ _)))
    have HAW : Hid (Aw2 w g5 x5 (opE ⟨#[43]⟩ exT exO) (fun _ => False) wc) := Lib.hid ⟨hA.aw, hB, xE_of hX⟩
    clear hA hB hX
    go_upto_region 4 with (fail)
    go_cut [7, 8] (fun sp se wx => AwC w g5 x5 (opE ⟨#[43]⟩ exT exO) (sumE (opE ⟨#[45]⟩ exA exB) (opE ⟨#[43]⟩ exA exB) (opE ⟨#[43]⟩ exT exB)) sp se wx)
    case first =>
      have HAo := HA
      have HAD := Lib.hid ((HAW.out.alloc (.cells zeroE 24)).kept (below_drewE (Below.refl _ _)))
      have HGD := Lib.hid HAW.out.gt
      have HZD := Lib.hid ((Bz.new wc).kept (below_drewE (Below.refl _ _)))
      have HZL := Lib.hid (zZ HZD.out)
      go_region_held3 (fun w' => w'.cell? ⟨w.heap.size, 0, none⟩ = some (.int .i64 3) ∧ w'.cell? ⟨w.heap.size, 1, none⟩ = some (.string ⟨#[97]⟩) ∧ w'.cell? ⟨w.heap.size, 2, none⟩ = some (.string ⟨#[]⟩) ∧ w'.cell? ⟨w.heap.size, 3, none⟩ = some (.int .i64 0) ∧ w'.cell? ⟨w.heap.size, 4, none⟩ = some (.int .i64 0) ∧ w'.cell? ⟨w.heap.size, 5, none⟩ = some (.slice none 0 0) ∧ w'.cell? ⟨w.heap.size + 1, 0, none⟩ = some (.int .i64 3) ∧ w'.cell? ⟨w.heap.size + 1, 1, none⟩ = some (.string ⟨#[98]⟩) ∧ w'.cell? ⟨w.heap.size + 1, 2, none⟩ = some (.string ⟨#[]⟩) ∧ w'.cell? ⟨w.heap.size + 1, 3, none⟩ = some (.int .i64 0) ∧ w'.cell? ⟨w.heap.size + 1, 4, none⟩ = some (.int .i64 0) ∧ w'.cell? ⟨w.heap.size + 1, 5, none⟩ = some (.slice none 0 0) ∧ w'.cell? ⟨w.heap.size + 1 + 1, 0, none⟩ = some (.int .i64 1) ∧ w'.cell? ⟨w.heap.size + 1 + 1, 1, none⟩ = some (.string ⟨#[]⟩) ∧ w'.cell? ⟨w.heap.size + 1 + 1, 2, none⟩ = some (.string ⟨#[]⟩) ∧ w'.cell? ⟨w.heap.size + 1 + 1, 3, none⟩ = some (.int .i64 1) ∧ w'.cell? ⟨w.heap.size + 1 + 1, 4, none⟩ = some (.int .i64 0) ∧ w'.cell? ⟨w.heap.size + 1 + 1, 5, none⟩ = some (.slice none 0 0) ∧ w'.cell? ⟨w.heap.size + 1 + 1 + 1, 0, none⟩ = some (.int .i64 1) ∧ w'.cell? ⟨w.heap.size + 1 + 1 + 1, 1, none⟩ = some (.string ⟨#[]⟩) ∧ w'.cell? ⟨w.heap.size + 1 + 1 + 1, 2, none⟩ = some (.string ⟨#[]⟩) ∧ w'.cell? ⟨w.heap.size + 1 + 1 + 1, 3, none⟩ = some (.int .i64 2) ∧ w'.cell? ⟨w.heap.size + 1 + 1 + 1, 4, none⟩ = some (.int .i64 0) ∧ w'.cell? ⟨w.heap.size + 1 + 1 + 1, 5, none⟩ = some (.slice none 0 0))
        (first
          | (with_reducible exact HA.out.aw.held)
          | (with_reducible exact (HA.out.aw.alloc _).held)
          | (with_reducible exact HAD.out.aw.held)
          | (exact (HA.out.set x4 HG.out).aw.held))
        (first
          | (go_at_call 19; (with_reducible refine (op_q (Z := (fun _ => False)) (nm := ⟨#[43]⟩) (leaf_e _ _ 3 ⟨#[97]⟩ ⟨#[]⟩ 0 0) (leaf_e _ _ 3 ⟨#[98]⟩ ⟨#[]⟩ 0 0) (fun _ h => h.elim)).mono ?_); rintro e W1 ⟨x1, rfl, hx, hb⟩; (have HA := Lib.hid (HA.out.kept hb)); (have HX1 := Lib.hid hx); (have HAo := HA); clear hx hb)
          | (go_at_call 19; (with_reducible refine (op_q (Z := (· = wc.heap.size)) (nm := ⟨#[43]⟩) (leaf_e _ _ 3 ⟨#[97]⟩ ⟨#[]⟩ 0 0) (leaf_e _ _ 3 ⟨#[98]⟩ ⟨#[]⟩ 0 0) HZL.out).mono ?_); rintro e W1 ⟨x1, rfl, hx, hb⟩; (have HA := Lib.hid (HAD.out.kept hb)); (have HX1 := Lib.hid hx); (have HG := HGD); (have HZ := Lib.hid (HZD.out.kept hb)); (have HAo := HA); clear hx hb)
          | (go_at_call 19; (with_reducible refine (op_q (Z := _) (nm := ⟨#[45]⟩) (leaf_e _ _ 3 ⟨#[97]⟩ ⟨#[]⟩ 0 0) (leaf_e _ _ 3 ⟨#[98]⟩ ⟨#[]⟩ 0 0) (zZ HZ.out)).mono ?_); rintro e W2 ⟨x2, rfl, hx, hb⟩; (have HA := Lib.hid (HA.out.kept hb)); (have HX1 := Lib.hid (HX1.out.kept hb)); (have HX2 := Lib.hid hx); (have HZ := Lib.hid (HZ.out.kept hb)); (have HAo := HA); clear hx hb)
          | (go_at_call 19; (with_reducible refine (op_q (Z := (fun _ => False)) (nm := ⟨#[45]⟩) (leaf_e _ _ 3 ⟨#[97]⟩ ⟨#[]⟩ 0 0) (leaf_e _ _ 3 ⟨#[98]⟩ ⟨#[]⟩ 0 0) (fun _ h => h.elim)).mono ?_); rintro e W2 ⟨x2, rfl, hx, hb⟩; (have HA := Lib.hid (HA.out.kept hb)); (have HX1 := Lib.hid (HX1.out.kept hb)); (have HX2 := Lib.hid hx); (have HAo := HA); clear hx hb)
          | (go_at_call 19; (with_reducible refine (op_q (Z := (· = W1.heap.size)) (nm := ⟨#[45]⟩) (leaf_e _ _ 3 ⟨#[97]⟩ ⟨#[]⟩ 0 0) (leaf_e _ _ 3 ⟨#[98]⟩ ⟨#[]⟩ 0 0) (zA _ _)).mono ?_); rintro e W2 ⟨x2, rfl, hx, hb⟩; (have HA := Lib.hid ((HA.out.alloc _).kept hb)); (have HX1 := Lib.hid ((HX1.out.alloc _).kept hb)); (have HX2 := Lib.hid hx); (have HG := Lib.hid HAo.out.gt); (have HZ := Lib.hid ((Bz.new _).kept hb)); (have HAo := HA); clear hx hb)
          | (go_at_call 19; (with_reducible refine (op_q (Z := _) (nm := ⟨#[43]⟩) (leaf_e _ _ 1 ⟨#[]⟩ ⟨#[]⟩ 2 0) (leaf_e _ _ 3 ⟨#[98]⟩ ⟨#[]⟩ 0 0) (zZ HZ.out)).mono ?_); rintro e W3 ⟨x3, rfl, hx, hb⟩; (have HA := Lib.hid (HA.out.kept hb)); (have HX1 := Lib.hid (HX1.out.kept hb)); (have HX2 := Lib.hid (HX2.out.kept hb)); (have HX3 := Lib.hid hx); (have HZ := Lib.hid (HZ.out.kept hb)); (have HAo := HA); clear hx hb)
          | (go_at_call 19; (with_reducible refine (op_q (Z := (fun _ => False)) (nm := ⟨#[43]⟩) (leaf_e _ _ 1 ⟨#[]⟩ ⟨#[]⟩ 2 0) (leaf_e _ _ 3 ⟨#[98]⟩ ⟨#[]⟩ 0 0) (fun _ h => h.elim)).mono ?_); rintro e W3 ⟨x3, rfl, hx, hb⟩; (have HA := Lib.hid (HA.out.kept hb)); (have HX1 := Lib.hid (HX1.out.kept hb)); (have HX2 := Lib.hid (HX2.out.kept hb)); (have HX3 := Lib.hid hx); (have HAo := HA); clear hx hb)
          | (go_at_call 19; (with_reducible refine (op_q (Z := (· = W2.heap.size)) (nm := ⟨#[43]⟩) (leaf_e _ _ 1 ⟨#[]⟩ ⟨#[]⟩ 2 0) (leaf_e _ _ 3 ⟨#[98]⟩ ⟨#[]⟩ 0 0) (zA _ _)).mono ?_); rintro e W3 ⟨x3, rfl, hx, hb⟩; (have HA := Lib.hid ((HA.out.alloc _).kept hb)); (have HX1 := Lib.hid ((HX1.out.alloc _).kept hb)); (have HX2 := Lib.hid ((HX2.out.alloc _).kept hb)); (have HX3 := Lib.hid hx); (have HG := Lib.hid HAo.out.gt); (have HZ := Lib.hid ((Bz.new _).kept hb)); (have HAo := HA); clear hx hb)
          | (go_at_call 12; (with_reducible refine (mMerge_e (Z := _) HX1.out HX2.out HX3.out aw2n (zZ HZ.out)).mono ?_); rintro e W4 ⟨x4, rfl, hx, hb⟩; (have HA := Lib.hid (HA.out.kept hb)); (have HX1 := Lib.hid (HX1.out.kept hb)); (have HX2 := Lib.hid (HX2.out.kept hb)); (have HX3 := Lib.hid (HX3.out.kept hb)); (have HX4 := Lib.hid hx); (have HZ := Lib.hid (HZ.out.kept hb)); rw [aw2] at HX4; (obtain ⟨z0, z1, z2, z3, z4, z5⟩ := cells6 HZ.out); (obtain ⟨f0, f1, f2, f3, f4, f5⟩ := free6 HZ.out); (have HAo := HA); clear hx hb)
          | (go_at_call 12; (with_reducible refine (mMerge_e (Z := (fun _ => False)) HX1.out HX2.out HX3.out aw2n (fun _ h => h.elim)).mono ?_); rintro e W4 ⟨x4, rfl, hx, hb⟩; (have HA := Lib.hid (HA.out.kept hb)); (have HX1 := Lib.hid (HX1.out.kept hb)); (have HX2 := Lib.hid (HX2.out.kept hb)); (have HX3 := Lib.hid (HX3.out.kept hb)); (have HX4 := Lib.hid hx); rw [aw2] at HX4; (have HAo := HA); clear hx hb)
          | (go_at_call 12; (with_reducible refine (mMerge_e (Z := (· = W3.heap.size)) (HX1.out.alloc _) (HX2.out.alloc _) (HX3.out.alloc _) aw2n (zA _ _)).mono ?_); rintro e W4 ⟨x4, rfl, hx, hb⟩; (have HA := Lib.hid ((HA.out.alloc _).kept hb)); (have HX1 := Lib.hid ((HX1.out.alloc _).kept hb)); (have HX2 := Lib.hid ((HX2.out.alloc _).kept hb)); (have HX3 := Lib.hid ((HX3.out.alloc _).kept hb)); (have HX4 := Lib.hid hx); (have HG := Lib.hid HAo.out.gt); (have HZ := Lib.hid ((Bz.new _).kept hb)); rw [aw2] at HX4; (obtain ⟨z0, z1, z2, z3, z4, z5⟩ := cells6 HZ.out); (obtain ⟨f0, f1, f2, f3, f4, f5⟩ := free6 HZ.out); (have HAo := HA); clear hx hb))
      all_goals (go_wp2_with fail; go_meet; rw [aw2]; first | (with_reducible exact awC_last HA.out HX4.out) | exact awC_set HA.out HX4.out HZ.out HG.out)
    case rest =>
      obtain ⟨g7, x7, rfl, rfl, hA, hB, hX⟩ := hcut
      obtain ⟨p7, c7, rfl⟩ := sum_form hX
      have HA : Hid (Aw2 w g5 x5 (opE ⟨#[43]⟩ exT exO) (fun _ => False) wc.drew) := Lib.hid (Aw2.kept hA (below_drewE (Below.refl _ _)))
      have HB7 : Hid (Bx wc.drew g7 ⟨15, ⟨#[]⟩, ⟨#[]⟩, 0, 0, p7, 3, c7⟩) := Lib.hid (hB.kept (below_drewE (Below.refl _ _)))
      have HX7 : Hid (XAt wc.drew (sumE (opE ⟨#[45]⟩ exA exB) (opE ⟨#[43]⟩ exA exB) (opE ⟨#[43]⟩ exT exB)) ⟨15, ⟨#[]⟩, ⟨#[]⟩, 0, 0, p7, 3, c7⟩) := Lib.hid (hX.kept (below_drewE (Below.refl _ _)))
      clear hA hB hX
      go_upto_region 5 with (fail)
      go_region_held3 (fun w' => w'.cell? ⟨w.heap.size + 1 + 1, 0, none⟩ = some (.int .i64 1) ∧ w'.cell? ⟨w.heap.size + 1 + 1, 1, none⟩ = some (.string ⟨#[]⟩) ∧ w'.cell? ⟨w.heap.size + 1 + 1, 2, none⟩ = some (.string ⟨#[]⟩) ∧ w'.cell? ⟨w.heap.size + 1 + 1, 3, none⟩ = some (.int .i64 1) ∧ w'.cell? ⟨w.heap.size + 1 + 1, 4, none⟩ = some (.int .i64 0) ∧ w'.cell? ⟨w.heap.size + 1 + 1, 5, none⟩ = some (.slice none 0 0) ∧ w'.cell? ⟨w.heap.size + 1 + 1 + 1, 0, none⟩ = some (.int .i64 1) ∧ w'.cell? ⟨w.heap.size + 1 + 1 + 1, 1, none⟩ = some (.string ⟨#[]⟩) ∧ w'.cell? ⟨w.heap.size + 1 + 1 + 1, 2, none⟩ = some (.string ⟨#[]⟩) ∧ w'.cell? ⟨w.heap.size + 1 + 1 + 1, 3, none⟩ = some (.int .i64 2) ∧ w'.cell? ⟨w.heap.size + 1 + 1 + 1, 4, none⟩ = some (.int .i64 0) ∧ w'.cell? ⟨w.heap.size + 1 + 1 + 1, 5, none⟩ = some (.slice none 0 0) ∧ w'.cell? ⟨g5, 0, none⟩ = some (.int .i64 x5.k) ∧ w'.cell? ⟨g5, 1, none⟩ = some (.string x5.n) ∧ w'.cell? ⟨g5, 2, none⟩ = some (.string x5.m) ∧ w'.cell? ⟨g5, 3, none⟩ = some (.int .i64 x5.i) ∧ w'.cell? ⟨g5, 4, none⟩ = some (.int .i64 x5.d) ∧ w'.cell? ⟨g5, 5, none⟩ = some (.slice x5.p x5.q x5.c) ∧ w'.cell? ⟨g7, 0, none⟩ = some (.int .i64 15) ∧ w'.cell? ⟨g7, 1, none⟩ = some (.string ⟨#[]⟩) ∧ w'.cell? ⟨g7, 2, none⟩ = some (.string ⟨#[]⟩) ∧ w'.cell? ⟨g7, 3, none⟩ = some (.int .i64 0) ∧ w'.cell? ⟨g7, 4, none⟩ = some (.int .i64 0) ∧ w'.cell? ⟨g7, 5, none⟩ = some (.slice p7 3 c7))
        (with_reducible exact HA.out.held5 HB7.out)
        (first
          | (go_at_call 19; (with_reducible refine (op_x (leaf_x _ 1 ⟨#[]⟩ ⟨#[]⟩ 2 0) (leaf_x _ 1 ⟨#[]⟩ ⟨#[]⟩ 1 0)).mono ?_); rintro e W8 ⟨x8, rfl, hx, hb⟩; (have HX8 := Lib.hid hx); (have HA := Lib.hid (HA.out.kept hb)); (have HB7 := Lib.hid (HB7.out.kept hb)); (have HX7 := Lib.hid (HX7.out.kept hb)); clear hx hb)
          | (go_at_call 14; (with_reducible refine (aw_same HA.out.xe.x HX8.out).mono ?_); rintro e W9 ⟨rfl, hb⟩; (have HA := Lib.hid (HA.out.kept hb)); (have HB7 := Lib.hid (HB7.out.kept hb)); (have HX7 := Lib.hid (HX7.out.kept hb)); clear hb)
          | (go_at_call 25; (with_reducible refine (aw_conf HX7.out).mono ?_); rintro e W10 ⟨rfl, hb⟩; (have HA := Lib.hid (HA.out.kept hb)); (have HB7 := Lib.hid (HB7.out.kept hb)); clear hb)
          | (go_at_call 20; (with_reducible refine (aw_clean HA.out.xe.x).mono ?_); rintro e W11 ⟨rfl, hb⟩; (have HA := Lib.hid (HA.out.kept hb)); (have HB7 := Lib.hid (HB7.out.kept hb)); clear hb))
      go_wp2_with fail
      go_ret
      exact ⟨rfl, HA.out.aw.below⟩
end Go.Proofs.YtiagjpiclnmpkaaDoor

namespace Go.Proofs.YtiagjpiclnmpkaaDoor
open Go.RowKit

theorem greatE_nodes {t : Ex} (h : greatE t = false) : nodesE t ≤ 40 := by
  simp only [greatE, Bool.or_eq_false_iff, decide_eq_false_iff_not] at h
  omega
theorem anyE_mem {f : Ex → Bool} {l : List Ex} (h : anyE f l = false) : ∀ t ∈ l, f t = false := by
  intro t ht
  unfold anyE at h
  rw [List.any_eq_false] at h
  have := h t ht
  simpa using this
theorem mergeX_nodes {b l r : Ex} : nodesE (mergeX b l r).1 ≤ 2 * nodesE b + nodesE l + nodesE r + 1 := by
  have h := mergeE_nodes b l r
  have hz : nodesE zeroEx = 1 := by simp [zeroEx, nodesE, nodesL]
  unfold mergeX
  (repeat' split) <;> simp only [hz] <;> omega
/-- three expressions in their boxes -/
structure F3 (w : World) (tb tl tr : Ex) (xb xl xr : XV) (W : World) : Prop where
  b : Bx W w.heap.size xb
  l : Bx W (w.heap.size + 1) xl
  r : Bx W (w.heap.size + 1 + 1) xr
  below : Below w.heap.size w W
  hb : XAt W tb xb
  hl : XAt W tl xl
  hr : XAt W tr xr
theorem F3.kept {w W W' : World} {b l r : Ex} {xb xl xr : XV} (h : F3 w b l r xb xl xr W) (hb : Below W.heap.size W W') : F3 w b l r xb xl xr W' :=
  ⟨h.b.kept hb, h.l.kept hb, h.r.kept hb, h.below.trans (hb.mono h.below.size), h.hb.kept hb, h.hl.kept hb, h.hr.kept hb⟩
theorem F3.alloc {w W : World} {b l r : Ex} {xb xl xr : XV} (h : F3 w b l r xb xl xr W) (o : Obj) : F3 w b l r xb xl xr (W.alloc o) := h.kept ((Below.refl _ _).alloc (Nat.le_refl _) _)
abbrev row3 (xb xl xr : XV) : Array Value := #[.int .i64 xb.k, .string xb.n, .string xb.m, .int .i64 xb.i, .int .i64 xb.d, .slice xb.p xb.q xb.c, .int .i64 xl.k, .string xl.n, .string xl.m, .int .i64 xl.i, .int .i64 xl.d, .slice xl.p xl.q xl.c, .int .i64 xr.k, .string xr.n, .string xr.m, .int .i64 xr.i, .int .i64 xr.d, .slice xr.p xr.q xr.c]
theorem three_sub {W : World} {a b c : Ex} {xa xb xc : XV} {g : Nat} (ha : XAt W a xa) (hb : XAt W b xb) (hc : XAt W c xc) (hr : W.heap[g]? = some (.cells (row3 xa xb xc) 24 (0, 0))) :
    SubAt W W.heap.size [a, b, c] (.slice (some ⟨g, 0, none⟩) 3 3) := by
  obtain ⟨ea, ha⟩ := xAt_sub ha
  obtain ⟨eb, hb⟩ := xAt_sub hb
  obtain ⟨ec, hc⟩ := xAt_sub hc
  rw [ea, eb, ec] at hr
  refine ⟨_, 3, rfl, Nat.le_refl _, fun _ => ⟨g, 0, rfl, (Array.getElem?_eq_some_iff.1 hr).1, rowAt_cons.2 ⟨⟨_, ?_, ?_, ?_, ?_, ?_, ?_, ha⟩, rowAt_cons.2 ⟨⟨_, ?_, ?_, ?_, ?_, ?_, ?_, hb⟩, rowAt_cons.2 ⟨⟨_, ?_, ?_, ?_, ?_, ?_, ?_, hc⟩, rowAt_nil⟩⟩⟩⟩⟩ <;> simp [World.cell?, hr]
theorem f3_start {w : World} {b l r : Ex} {xb xl xr : XV} (hb : XAt w b xb) (hl : XAt w l xl) (hr : XAt w r xr) :
    ∃ W, (((w.alloc (.cells xb.arr 24)).alloc (.cells xl.arr 24)).alloc (.cells xr.arr 24)).alloc (.cells (row3 xb xl xr) 24) = W ∧ F3 w b l r xb xl xr W ∧ SubAt W W.heap.size [b, l, r] (.slice (some ⟨w.heap.size + 1 + 1 + 1, 0, none⟩) 3 3) := by
  refine ⟨_, rfl, ?_⟩
  obtain ⟨W, hW⟩ : ∃ W, (((w.alloc (.cells xb.arr 24)).alloc (.cells xl.arr 24)).alloc (.cells xr.arr 24)).alloc (.cells (row3 xb xl xr) 24) = W := ⟨_, rfl⟩
  have q1 := (((Bx.new w xb).alloc (.cells xl.arr 24)).alloc (.cells xr.arr 24)).alloc (.cells (row3 xb xl xr) 24)
  have q2 := ((Bx.new (w.alloc (.cells xb.arr 24)) xl).alloc (.cells xr.arr 24)).alloc (.cells (row3 xb xl xr) 24)
  have q3 := (Bx.new ((w.alloc (.cells xb.arr 24)).alloc (.cells xl.arr 24)) xr).alloc (.cells (row3 xb xl xr) 24)
  have q4 := World.alloc_heap_new (((w.alloc (.cells xb.arr 24)).alloc (.cells xl.arr 24)).alloc (.cells xr.arr 24)) (.cells (row3 xb xl xr) 24)
  have hbW : Below w.heap.size w W := by rw [← hW]; exact ((((Below.refl _ _).alloc (Nat.le_refl _) _).alloc (by simp) _).alloc (by simp; omega) _).alloc (by simp; omega) _
  simp only [World.size_alloc] at q2 q3 q4
  rw [hW] at q1 q2 q3 q4 ⊢
  exact ⟨⟨q1, q2, q3, hbW, hb.kept hbW, hl.kept hbW, hr.kept hbW⟩, three_sub (hb.kept hbW) (hl.kept hbW) (hr.kept hbW) q4⟩
set_option maxRecDepth 100000 in
set_option maxHeartbeats 4000000 in
theorem lawMerge_x {b l r : Ex} {xb xl xr : XV} {w : World} (hb : XAt w b xb) (hl : XAt w l xl) (hr : XAt w r xr) (hsz : nodesE b + nodesE l + nodesE r ≤ 1048576) :
    Calls Tryd.prog 3 #[.agg xb.arr, .agg xl.arr, .agg xr.arr] w fun e w' => e = .returned (.bool true) ∧ Below w.heap.size w w' := by
  obtain ⟨W, hW, hF, hS⟩ := f3_start hb hl hr
  have HG := Lib.hid (great_x hS (by simp only [nodesL]; omega))
  have HW := Lib.hid hW
  have HF := Lib.hid hF
  clear hW hF hS hb hl hr
  obtain ⟨g, hg⟩ : ∃ g, anyE greatE [b, l, r] = g := ⟨_, rfl⟩
  rw [hg] at HG
  have HGG := Lib.hid hg
  clear hg
  go_enter Tryd.func3, Tryd.ntmps3
  go_wp2_with fail
  rw [HW.out]
  refine (HG.out).mono ?_
  rintro e W1 ⟨rfl, hb1⟩
  have HF1 := Lib.hid (HF.out.kept hb1)
  clear hb1
  cases g with
  | true =>
    go_wp2_with fail
    refine (awake_x _).mono ?_
    rintro e W2 ⟨rfl, hb2⟩
    go_wp2_with fail
    go_ret
    exact ⟨rfl, HF1.out.below.trans (hb2.mono HF1.out.below.size)⟩
  | false =>
    have hnb := greatE_nodes (anyE_mem HGG.out b (by simp))
    have hnl := greatE_nodes (anyE_mem HGG.out l (by simp))
    have hnr := greatE_nodes (anyE_mem HGG.out r (by simp))
    have HMN := Lib.hid (mergeX_nodes (b := b) (l := l) (r := r))
    have HM := Lib.hid (mMerge_x HF1.out.hb HF1.out.hl HF1.out.hr (by omega))
    obtain ⟨t, ht⟩ : ∃ t, mergeX b l r = t := ⟨_, rfl⟩
    rw [ht] at HM HMN
    have HT := Lib.hid ht
    clear ht
    obtain ⟨b0, b1, b2, b3, b4, b5⟩ := HF1.out.b.cells
    obtain ⟨l0, l1, l2, l3, l4, l5⟩ := HF1.out.l.cells
    obtain ⟨r0, r1, r2, r3, r4, r5⟩ := HF1.out.r.cells
    go_wp2_with fail
    refine (HM.out).mono ?_
    rintro e W2 ⟨x2, rfl, hx2, hb2⟩
    have HF2 := Lib.hid ((HF1.out.kept hb2).alloc (.cells x2.arr 24))
    have HX2 := Lib.hid (hx2.alloc (.cells x2.arr 24))
    have HB2 := Lib.hid (Bx.new W2 x2)
    have hs2 := (HF1.out.kept hb2).r.lt
    have q0 : w.heap.size < W2.heap.size := by omega
    have q1 : w.heap.size + 1 < W2.heap.size := by omega
    have q2 : w.heap.size + 1 + 1 < W2.heap.size := by omega
    clear b0 b1 b2 b3 b4 b5 l0 l1 l2 l3 l4 l5 r0 r1 r2 r3 r4 r5
    obtain ⟨b0, b1, b2, b3, b4, b5⟩ := (HF1.out.kept hb2).b.cells
    obtain ⟨l0, l1, l2, l3, l4, l5⟩ := (HF1.out.kept hb2).l.cells
    obtain ⟨r0, r1, r2, r3, r4, r5⟩ := (HF1.out.kept hb2).r.cells
    have HM2 := Lib.hid (rMerge_x HF2.out.hb HF2.out.hl HF2.out.hr (by omega))
    rw [HT.out] at HM2
    clear hx2 hb2
    go_wp2_with fail
    refine (HM2.out).mono ?_
    rintro e W3 ⟨x3, rfl, hx3, hb3⟩
    have HF3 := Lib.hid (HF2.out.kept hb3)
    have HX3 := Lib.hid ((HX2.out.kept hb3).alloc (.cells x3.arr 24))
    have HY3 := Lib.hid (hx3.alloc (.cells x3.arr 24))
    have hs3 := (HB2.out.kept hb3).lt
    have q3 : W2.heap.size < W3.heap.size := by omega
    clear b0 b1 b2 b3 b4 b5 l0 l1 l2 l3 l4 l5 r0 r1 r2 r3 r4 r5
    obtain ⟨b0, b1, b2, b3, b4, b5⟩ := (HB2.out.kept hb3).cells
    have HS3 := Lib.hid (rSame_x HX3.out HY3.out (by have := HMN.out; omega))
    rw [sameE_refl] at HS3
    clear hx3 hb3
    go_wp2_with fail
    refine (HS3.out).mono ?_
    rintro e W4 ⟨rfl, hb4⟩
    have HB4 : Hid (Below w.heap.size w W4) := Lib.hid ((HF3.out.alloc (.cells x3.arr 24)).kept hb4).below
    clear hb4
    go_wp2_with fail
    refine (awake_x _).mono ?_
    rintro e W5 ⟨rfl, hb5⟩
    go_wp2_with fail
    go_ret
    exact ⟨rfl, HB4.out.trans (hb5.mono HB4.out.size)⟩
end Go.Proofs.YtiagjpiclnmpkaaDoor
