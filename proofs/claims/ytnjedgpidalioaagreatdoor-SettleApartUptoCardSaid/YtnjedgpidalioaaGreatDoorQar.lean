/- Texts of this proof, part 18: what the proof uses of them. -/
import Derived.Test.YtnjedgpidalioaaGreatDoorQak
import Derived.Test.YtnjedgpidalioaaGreatDoorQal
import Derived.Test.YtnjedgpidalioaaGreatDoorQaq
import Derived.Test.YtnjedgpidalioaaGreatDoorQaf
namespace Go.Proofs.YtnjedgpidalioaaGreatDoor
section
open Go Go.RowKit
def sameDc (x y : Dc) : Bool := decide (x.id = y.id) && (decide (x.kind = y.kind) && ((x.pub == y.pub) && ((x.doubt == y.doubt) && (sameS x.names y.names && sameE x.body y.body))))
theorem sameDc_iff (x y : Dc) : sameDc x y = true ↔ x = y := by
 obtain ⟨a1, a2, a3, a4, a5, a6⟩ := x
 obtain ⟨b1, b2, b3, b4, b5, b6⟩ := y
 simp only [sameDc, Bool.and_eq_true, decide_eq_true_eq, beq_iff_eq, sameS_iff, sameE_iff, Dc.mk.injEq]
 exact ⟨fun ⟨h1, h2, h3, h4, h5, h6⟩ => ⟨h1, h2, h3, h5, h4, h6⟩, fun ⟨h1, h2, h3, h5, h4, h6⟩ => ⟨h1, h2, h3, h4, h5, h6⟩⟩
def sameDs : List Dc → List Dc → Bool
 | [], [] => true
 | x :: xs, y :: ys => sameDc x y && sameDs xs ys
 | _, _ => false
theorem sameDs_iff : ∀ a b : List Dc, sameDs a b = true ↔ a = b
 | [], [] => by simp [sameDs]
 | x :: xs, y :: ys => by simp only [sameDs, Bool.and_eq_true, sameDc_iff, sameDs_iff xs ys, List.cons.injEq]
 | [], y :: ys => by simp [sameDs]
 | x :: xs, [] => by simp [sameDs]
theorem sameDs_false {a b : List Dc} (h : a ≠ b) : sameDs a b = false := by
 cases hc : sameDs a b
 ·rfl
 ·exact absurd ((sameDs_iff a b).1 hc) h
set_option maxRecDepth 100000 in
set_option maxHeartbeats 8000000 in
theorem rSameDecl_c (x y : Dc) (hb : nodesE x.body ≤ 1048576) (hn : x.names.length ≤ 1048576) : Con Tryz.prog 146 [avD x, avD y] (.d (.raw (.bool (sameDc x y)))) := by
 have cs := rSameStrings_c x.names y.names hn
 have ce := rSame_c x.body y.body (by omega)
 refine con_of Tryz.func146 rfl (by decide +kernel) rfl rfl (by simp [Tryz.ntmps146]) fun A hA => ?_
 rw [Tryz.ntmps146] at hA
 refine goC 400 ?_
 have he : sameDc x y = (decide (x.id = y.id) && (decide (x.kind = y.kind) && ((x.pub == y.pub) && ((x.doubt == y.doubt) && (sameS x.names y.names && sameE x.body y.body))))) := rfl
 cases g1 : decide (x.id = y.id) with
 | false =>
  rw [g1] at he
  simp only [Bool.false_and] at he
  simp only [go_sem, hA, avD, g1, undef, he, Tryz.results146]
 | true =>
 cases g2 : decide (x.kind = y.kind) with
 | false =>
  rw [g1, g2] at he
  simp only [Bool.false_and, Bool.true_and] at he
  simp only [go_sem, hA, avD, g1, g2, undef, he, Tryz.results146]
 | true =>
 cases g3 : (x.pub == y.pub) with
 | false =>
  rw [g1, g2, g3] at he
  simp only [Bool.false_and, Bool.true_and] at he
  simp only [go_sem, hA, avD, g1, g2, g3, undef, he, Tryz.results146]
 | true =>
 cases g4 : (x.doubt == y.doubt) with
 | false =>
  rw [g1, g2, g3, g4] at he
  simp only [Bool.false_and, Bool.true_and] at he
  simp only [go_sem, hA, avD, g1, g2, g3, g4, undef, he, Tryz.results146]
 | true =>
 rw [g1, g2, g3, g4] at he
 simp only [Bool.true_and] at he
 simp only [go_sem, hA, avD, g1, g2, g3, g4]
 refine goCall 300 cs rfl (by simp only [go_sem]) (by simp only [go_sem, hA]) ?_
 cases g5 : sameS x.names y.names with
 | false =>
  rw [g5] at he
  simp only [Bool.false_and] at he
  simp only [go_sem, hA, undef, he, Tryz.results146]
 | true =>
  rw [g5] at he
  simp only [Bool.true_and] at he
  simp only [go_sem, hA]
  refine goCall 300 ce rfl (by simp only [go_sem, avE_eq]) (by simp only [go_sem, hA]) ?_
  cases g6 : sameE x.body y.body <;> rw [g6] at he <;> simp only [go_sem, hA, he, Tryz.results146]
abbrev smdSt (l m : List Dc) (q : Nat) : St := ⟨[(0, .d (.sl (encDs l))), (1, .d (.sl (encDs m))), (5, .d (.raw (.int .i64 q)))], [], []⟩
set_option maxRecDepth 100000 in
set_option maxHeartbeats 8000000 in
theorem rSameDecls_c (l m : List Dc) (hl : l.length ≤ 1048576) (hb : ∀ d ∈ l, nodesE d.body ≤ 1048576 ∧ d.names.length ≤ 1048576) : Con Tryz.prog 101 [.d (.sl (encDs l)), .d (.sl (encDs m))] (.d (.raw (.bool (sameDs l m)))) := by
 refine con_of Tryz.func101 rfl (by decide +kernel) rfl rfl (by simp [Tryz.ntmps101]) fun A hA => ?_
 rw [Tryz.ntmps101] at hA
 refine goC 300 ?_
 by_cases hlm : l.length = m.length
 ·have g0 : (decide ¬ (l.length : Int) = (m.length : Int)) = false := decide_eq_false (by omega)
  simp only [go_sem, hA, encDs_length, g0]
  refine satC_loop [0, 1, 5] [] [] (fun x σ => ∃ q : Nat, q ≤ l.length ∧ x = l.length - q ∧ l.take q = m.take q ∧ σ = smdSt l m q) l.length ⟨0, by omega, by omega, rfl, by simp only [go_sem, smdSt]⟩ ?_
  rintro x σ ⟨q, hq, rfl, hf, rfl⟩
  refine goC 400 ?_
  by_cases hlt : q < l.length
  ·have g1 : decide ((q : Int) < (l.length : Int)) = true := decide_eq_true (by omega)
   have hq2 : q < m.length := by omega
   obtain ⟨hb1, hb2⟩ := hb l[q] (List.getElem_mem hlt)
   have cs := rSameDecl_c l[q] m[q] hb1 hb2
   obtain ⟨d, hd⟩ : ∃ d, l[q] = d := ⟨_, rfl⟩
   obtain ⟨e, he⟩ : ∃ e, m[q] = e := ⟨_, rfl⟩
   rw [hd, he] at cs
   simp only [go_sem, hA, smdSt, encDs_length, g1, Int.toNat_natCast, encDs_at l q hlt, encDs_at m q hq2, hd, he, encD, mixed]
   refine ⟨⟨by omega, by omega⟩, ⟨by omega, by omega⟩, ?_⟩
   refine goCallD 300 cs rfl (by simp only [go_sem, avD]) (by simp only [go_sem, hA]) ?_
   cases hs : sameDc d e with
   | true =>
    have hde := (sameDc_iff d e).1 hs
    simp only [go_sem, hA]
    exact ⟨by show chk _ _ _ = true; kernel_rfl, by unfold inI64; omega, l.length - (q + 1), by omega, q + 1, by omega, rfl, by rw [List.take_succ_eq_append_getElem hlt, List.take_succ_eq_append_getElem hq2, hf, hd, he, hde], rfl⟩
   | false =>
    have hne : sameDs l m = false := sameDs_false fun e' => by
     subst e'
     rw [hd] at he
     rw [(sameDc_iff d e).2 he] at hs
     cases hs
    simp only [go_sem, hA, hne, Tryz.results101]
    exact by show chk _ _ _ = true; kernel_rfl
  ·have g1 : decide ((q : Int) < (l.length : Int)) = false := decide_eq_false (by omega)
   obtain rfl : q = l.length := by omega
   have he : l = m := by rw [List.take_length, List.take_of_length_le (by omega)] at hf; exact hf
   have hs : sameDs l m = true := (sameDs_iff _ _).2 he
   simp only [go_sem, hA, smdSt, encDs_length, g1, Tryz.results101, hs]
 ·have g0 : (decide ¬ (l.length : Int) = (m.length : Int)) = true := decide_eq_true (by omega)
  have hne : sameDs l m = false := sameDs_false fun e => hlm (by rw [e])
  simp only [go_sem, hA, encDs_length, g0, Tryz.results101, hne]
end
section
open Go Go.RowKit
def allE {α : Type} (p : α → α → Bool) : List α → List α → Bool
 | [], [] => true
 | x :: xs, y :: ys => p x y && allE p xs ys
 | _, _ => false
theorem allE_iff {α : Type} {p : α → α → Bool} (hp : ∀ x y, p x y = true ↔ x = y) : ∀ a b : List α, allE p a b = true ↔ a = b
 | [], [] => by simp [allE]
 | x :: xs, y :: ys => by simp only [allE, Bool.and_eq_true, hp, allE_iff hp xs ys, List.cons.injEq]
 | [], y :: ys => by simp [allE]
 | x :: xs, [] => by simp [allE]
theorem allE_false {α : Type} {p : α → α → Bool} (hp : ∀ x y, p x y = true ↔ x = y) {a b : List α} (h : a ≠ b) : allE p a b = false := by
 cases hc : allE p a b
 ·rfl
 ·exact absurd ((allE_iff hp a b).1 hc) h
theorem eqQ_iff (x y : Sq) : eqQ x y = true ↔ x = y := by
 obtain ⟨a1, a2, a3, a4⟩ := x
 obtain ⟨b1, b2, b3, b4⟩ := y
 simp [eqQ]
def eqFl (x y : Fl) : Bool := decide (x.path = y.path) && decide (x.data = y.data)
theorem eqFl_iff (x y : Fl) : eqFl x y = true ↔ x = y := by
 obtain ⟨a1, a2⟩ := x
 obtain ⟨b1, b2⟩ := y
 simp [eqFl]
def eqMo (x y : Mo) : Bool := decide (x.label = y.label) && (sameS x.uses y.uses && sameDs x.decls y.decls)
theorem eqMo_iff (x y : Mo) : eqMo x y = true ↔ x = y := by
 obtain ⟨a1, a2, a3⟩ := x
 obtain ⟨b1, b2, b3⟩ := y
 simp only [eqMo, Bool.and_eq_true, decide_eq_true_eq, sameS_iff, sameDs_iff, Mo.mk.injEq]
def eqTc (x y : Tc) : Bool := decide (x.path = y.path) && ((x.inB == y.inB) && ((x.inL == y.inL) && ((x.inR == y.inR) && (decide (x.base = y.base) && (decide (x.left = y.left) && decide (x.right = y.right))))))
theorem eqTc_iff (x y : Tc) : eqTc x y = true ↔ x = y := by
 obtain ⟨a1, a2, a3, a4, a5, a6, a7⟩ := x
 obtain ⟨b1, b2, b3, b4, b5, b6, b7⟩ := y
 simp [eqTc]
def eqG (x y : Mg) : Bool := allE eqMo x.ms y.ms && (allE eqFl x.fs y.fs && allE eqTc x.ts y.ts)
theorem eqG_iff (x y : Mg) : eqG x y = true ↔ x = y := by
 obtain ⟨a1, a2, a3⟩ := x
 obtain ⟨b1, b2, b3⟩ := y
 simp only [eqG, Bool.and_eq_true, allE_iff eqMo_iff, allE_iff eqFl_iff, allE_iff eqTc_iff, Mg.mk.injEq]
abbrev sfSt (l m : List Fl) (q : Nat) : St := ⟨[(0, .d (.sl (encFs l))), (1, .d (.sl (encFs m))), (5, .d (.raw (.int .i64 q)))], [], []⟩
set_option maxRecDepth 100000 in
set_option maxHeartbeats 8000000 in
theorem rSameFiles_c (l m : List Fl) (hl : l.length ≤ 1048576) : Con Tryz.prog 37 [.d (.sl (encFs l)), .d (.sl (encFs m))] (.d (.raw (.bool (allE eqFl l m)))) := by
 refine con_of Tryz.func37 rfl (by decide +kernel) rfl rfl (by simp [Tryz.ntmps37]) fun A hA => ?_
 rw [Tryz.ntmps37] at hA
 refine goC 300 ?_
 by_cases hlm : l.length = m.length
 ·have g0 : (decide ¬ (l.length : Int) = (m.length : Int)) = false := decide_eq_false (by omega)
  simp only [go_sem, hA, encFs_length, g0]
  refine satC_loop [0, 1, 5] [] [] (fun x σ => ∃ q : Nat, q ≤ l.length ∧ x = l.length - q ∧ l.take q = m.take q ∧ σ = sfSt l m q) l.length ⟨0, by omega, by omega, rfl, by simp only [go_sem, sfSt]⟩ ?_
  rintro x σ ⟨q, hq, rfl, hf, rfl⟩
  refine goC 400 ?_
  by_cases hlt : q < l.length
  ·have g1 : decide ((q : Int) < (l.length : Int)) = true := decide_eq_true (by omega)
   have hq2 : q < m.length := by omega
   obtain ⟨d, hd⟩ : ∃ d, l[q] = d := ⟨_, rfl⟩
   obtain ⟨e, he⟩ : ∃ e, m[q] = e := ⟨_, rfl⟩
   have hr : (decide (d.path = e.path) && decide (d.data = e.data)) = eqFl d e := rfl
   cases hs : eqFl d e with
   | true =>
    have hde := (eqFl_iff d e).1 hs
    rw [hs] at hr
    simp only [go_sem, hA, sfSt, encFs_length, g1, Int.toNat_natCast, encFs_at l q hlt, encFs_at m q hq2, hd, he, String.reduceEq, hr, Bool.not_true, mixed]
    exact ⟨⟨by omega, by omega⟩, ⟨by omega, by omega⟩, ⟨by kernel_rfl, by kernel_rfl⟩, by show chk _ _ _ = true; kernel_rfl, by unfold inI64; omega, l.length - (q + 1), by omega, q + 1, by omega, rfl, by rw [List.take_succ_eq_append_getElem hlt, List.take_succ_eq_append_getElem hq2, hf, hd, he, hde], rfl⟩
   | false =>
    rw [hs] at hr
    have hne : allE eqFl l m = false := allE_false eqFl_iff fun e' => by
     subst e'
     rw [hd] at he
     rw [(eqFl_iff d e).2 he] at hs
     cases hs
    simp only [go_sem, hA, sfSt, encFs_length, g1, Int.toNat_natCast, encFs_at l q hlt, encFs_at m q hq2, hd, he, String.reduceEq, hr, Bool.not_false, hne, mixed, Tryz.results37]
    exact ⟨⟨by omega, by omega⟩, ⟨by omega, by omega⟩, ⟨by kernel_rfl, by kernel_rfl⟩, by show chk _ _ _ = true; kernel_rfl⟩
  ·have g1 : decide ((q : Int) < (l.length : Int)) = false := decide_eq_false (by omega)
   obtain rfl : q = l.length := by omega
   have he : l = m := by rw [List.take_length, List.take_of_length_le (by omega)] at hf; exact hf
   have hs : allE eqFl l m = true := (allE_iff eqFl_iff _ _).2 he
   simp only [go_sem, hA, sfSt, encFs_length, g1, Tryz.results37, hs]
 ·have g0 : (decide ¬ (l.length : Int) = (m.length : Int)) = true := decide_eq_true (by omega)
  have hne : allE eqFl l m = false := allE_false eqFl_iff fun e => hlm (by rw [e])
  simp only [go_sem, hA, encFs_length, g0, Tryz.results37, hne]
set_option maxRecDepth 100000 in
theorem rSameMo_c (x y : Mo) (hu : x.uses.length ≤ 1048576) (hl : x.decls.length ≤ 1048576) (hb : ∀ d ∈ x.decls, nodesE d.body ≤ 1048576 ∧ d.names.length ≤ 1048576) : Con Tryz.prog 69 [avM x, avM y] (.d (.raw (.bool (eqMo x y)))) := by
 refine con_of Tryz.func69 rfl (by decide +kernel) rfl rfl (by simp [Tryz.ntmps69]) fun A hA => ?_
 rw [Tryz.ntmps69] at hA
 refine goC 400 ?_
 have hr : eqMo x y = (decide (x.label = y.label) && (sameS x.uses y.uses && sameDs x.decls y.decls)) := rfl
 cases g : decide (x.label = y.label) with
 | false =>
  rw [g, Bool.false_and] at hr
  simp only [go_sem, hA, avM, g, undef, hr, Tryz.results69]
 | true =>
 rw [g, Bool.true_and] at hr
 simp only [go_sem, hA, avM, g]
 refine goCall 300 (rSameStrings_c x.uses y.uses hu) rfl (by simp only [go_sem]) (by simp only [go_sem, hA]) ?_
 cases h : sameS x.uses y.uses with
 | false =>
  rw [h, Bool.false_and] at hr
  simp only [go_sem, hA, undef, hr, Tryz.results69]
 | true =>
  rw [h, Bool.true_and] at hr
  simp only [go_sem, hA]
  refine goCall 300 (rSameDecls_c x.decls y.decls hl hb) rfl (by simp only [go_sem]) (by simp only [go_sem, hA]) ?_
  simp only [go_sem, hA, hr, Tryz.results69]
abbrev smSt (l m : List Mo) (q : Nat) : St := ⟨[(0, .d (.sl (encMs l))), (1, .d (.sl (encMs m))), (5, .d (.raw (.int .i64 q)))], [], []⟩
set_option maxRecDepth 100000 in
set_option maxHeartbeats 8000000 in
theorem rSameMods_c (l m : List Mo) (hl : l.length ≤ 1048576) (hb : ∀ x ∈ l, x.uses.length ≤ 1048576 ∧ x.decls.length ≤ 1048576 ∧ ∀ d ∈ x.decls, nodesE d.body ≤ 1048576 ∧ d.names.length ≤ 1048576) : Con Tryz.prog 36 [.d (.sl (encMs l)), .d (.sl (encMs m))] (.d (.raw (.bool (allE eqMo l m)))) := by
 refine con_of Tryz.func36 rfl (by decide +kernel) rfl rfl (by simp [Tryz.ntmps36]) fun A hA => ?_
 rw [Tryz.ntmps36] at hA
 refine goC 300 ?_
 by_cases hlm : l.length = m.length
 ·have g0 : (decide ¬ (l.length : Int) = (m.length : Int)) = false := decide_eq_false (by omega)
  simp only [go_sem, hA, encMs_length, g0]
  refine satC_loop [0, 1, 5] [] [] (fun x σ => ∃ q : Nat, q ≤ l.length ∧ x = l.length - q ∧ l.take q = m.take q ∧ σ = smSt l m q) l.length ⟨0, by omega, by omega, rfl, by simp only [go_sem, smSt]⟩ ?_
  rintro x σ ⟨q, hq, rfl, hf, rfl⟩
  refine goC 400 ?_
  by_cases hlt : q < l.length
  ·have g1 : decide ((q : Int) < (l.length : Int)) = true := decide_eq_true (by omega)
   have hq2 : q < m.length := by omega
   obtain ⟨d, hd⟩ : ∃ d, l[q] = d := ⟨_, rfl⟩
   obtain ⟨e, he⟩ : ∃ e, m[q] = e := ⟨_, rfl⟩
   have hx := hb l[q] (List.getElem_mem hlt)
   have cs := rSameMo_c l[q] m[q] hx.1 hx.2.1 hx.2.2
   rw [hd, he] at cs
   simp only [go_sem, hA, smSt, encMs_length, g1, Int.toNat_natCast, encMs_at l q hlt, encMs_at m q hq2, hd, he, encM, mixed]
   refine ⟨⟨by omega, by omega⟩, ⟨by omega, by omega⟩, ?_⟩
   refine goCallD 300 cs rfl (by simp only [go_sem, avM]) (by simp only [go_sem, hA]) ?_
   cases hs : eqMo d e with
   | true =>
    have hde := (eqMo_iff d e).1 hs
    simp only [go_sem, hA]
    exact ⟨by show chk _ _ _ = true; kernel_rfl, by unfold inI64; omega, l.length - (q + 1), by omega, q + 1, by omega, rfl, by rw [List.take_succ_eq_append_getElem hlt, List.take_succ_eq_append_getElem hq2, hf, hd, he, hde], rfl⟩
   | false =>
    have hne : allE eqMo l m = false := allE_false eqMo_iff fun e' => by
     subst e'
     rw [hd] at he
     rw [(eqMo_iff d e).2 he] at hs
     cases hs
    simp only [go_sem, hA, hne, Tryz.results36]
    exact by show chk _ _ _ = true; kernel_rfl
  ·have g1 : decide ((q : Int) < (l.length : Int)) = false := decide_eq_false (by omega)
   obtain rfl : q = l.length := by omega
   have he : l = m := by rw [List.take_length, List.take_of_length_le (by omega)] at hf; exact hf
   have hs : allE eqMo l m = true := (allE_iff eqMo_iff _ _).2 he
   simp only [go_sem, hA, smSt, encMs_length, g1, Tryz.results36, hs]
 ·have g0 : (decide ¬ (l.length : Int) = (m.length : Int)) = true := decide_eq_true (by omega)
  have hne : allE eqMo l m = false := allE_false eqMo_iff fun e => hlm (by rw [e])
  simp only [go_sem, hA, encMs_length, g0, Tryz.results36, hne]
end
section
open Go Go.RowKit
variable {P : Program} {A : Base P} {σ : St} {g : Gh} {a : Act} {w : World}
theorem Ok.appendedW (hk : Ok A σ g a w) {r : Nat} {k : Tok} {rows rows2 : List (List D)} {v x : Value} {t ty : TypeId} {z : Value} (hr : σ.tok r = some k) (hex : k.ex = none) (hv : Has g σ.tk w (.grow r rows) v) (hlen : rows.length = k.len) (hx : Reads w g.F (.sl rows2) x)
  (ht : P.underlying t = some (.slice k.ty)) (hz : zeroOf P k.ty = some z) (hzs : z.cells.size = P.cellsOf k.ty) (h0 : P.cellsOf k.ty ≠ 0) (hst : P.cellsOf k.ty = k.st) (hby : P.bytesOf k.ty ≤ 1024) (hfit : rowsFit k.st rows2) (hfit0 : ∀ r ∈ rows, r.length = k.st) (hbd : rows.length + rows2.length ≤ 137438953472) :
  ∃ g' v' w', (Builtin.append_ #[t, t] ty #[v, x]).run P w = .ok v' w' ∧ Ok A (σ.setTok r (some { k with len := k.len + rows2.length })) g' a w' ∧ Has g' (σ.setTok r (some { k with len := k.len + rows2.length })).tk w' (.grow r (rows ++ rows2)) v' := by
 obtain ⟨hrd, htv⟩ := hv.grow_eq
 have hve : v = g.tv r := (htv k.len (by simp [St.tk, hr])).2 hlen
 obtain ⟨xs, hown⟩ := (hk.tok r k hr).own hex
 have htk : (σ.setTok r (some { k with len := k.len + rows2.length })).tk r = some (k.len + rows2.length) := by simp [St.tk, St.tok_setTok]
 by_cases hm : rows2 = []
 ·subst hm
  obtain ⟨q, c, hxe, _⟩ := hx.slice
  have hr0 := run_append_zero (P := P) (w := w) (t := t) (ty := ty) (v := v) (x := x) (n := k.len) ht h0 (by
   rw [hve]
   rcases hown.2 with h1 | ⟨b, cap, cur, h1, _, _, h2, _⟩
   ·exact .inl h1
   ·exact .inr ⟨b, cap, h1, h2⟩) ⟨q, c, hxe⟩
  have hg : w.grownBy w (g.tv r).ownBlock := ⟨rfl, rfl, rfl, Nat.le_refl _, fun _ _ _ => rfl⟩
  obtain ⟨h1, e1⟩ := hk.append (m := 0) (v' := g.tv r) (w' := w) (xs := xs) hr hex (by simpa using hown) hg (Below.refl _ _) (fun _ _ _ _ => rfl) (.inl rfl) (fun _ => rfl)
  refine ⟨_, v, w, hr0, h1, .grow r _ _ ?_ fun n' hn' => ?_⟩
  ·rw [List.append_nil]; exact hrd.mono e1.hF e1.hw
  ·simp only [List.append_nil, List.length_nil, Nat.add_zero] at hn' ⊢
   simp only [St.tk, St.tok_setTok, if_pos, Option.map_some, Option.some.injEq] at hn'
   subst hn'
   exact ⟨by omega, fun _ => by simp only [updN_same]; exact hve⟩
 ·obtain ⟨b, off, c, news, hxe, hnl, hnews, hone, hnr⟩ := hx.news (st := k.st) (fun q hq => (hfit q hq).1) (fun q hq => (hfit q hq).2) hm
  obtain ⟨i, hi, hzi⟩ : ∃ i, P.info? k.ty = some i ∧ i.zero = some z := by
   unfold zeroOf at hz
   cases hi : P.info? k.ty with
   | none => simp [hi] at hz
   | some i => exact ⟨i, rfl, by simpa [hi] using hz⟩
  have hsz : i.size = k.st := by rw [← hst]; simp [Program.cellsOf, hi]
  have hbi : i.bytes = P.bytesOf k.ty := by simp [Program.bytesOf, hi]
  have hbb : (k.len + rows2.length) * P.bytesOf k.ty ≤ 140737488355328 := by
   have h1 := Nat.mul_le_mul (show k.len + rows2.length ≤ 137438953472 by omega) hby
   omega
  obtain ⟨v', w', hr', hown', hg, _, hat⟩ := run_append_own_at (P := P) w A.B t ty k.ty i z k.st (P.bytesOf k.ty) ht hi hzi hsz hbi (by rw [hzs, hst]) (by omega) (g.tv r) k.len xs hown ⟨b, off, none⟩ rows2.length c news hnl hnews hone (by unfold maxLen; omega) hbb hk.hB
  have hbel : Below A.B w w' := ⟨hg.os, hg.tape, hg.output, hg.size, fun q hq => hg.block q (by have := hk.hB; omega) (fun e => by have := (hown.lt q e.symm).1; omega)⟩
  have hxs : xs.length = k.len * k.st := hown.1
  have hpos2 : 0 < rows2.length := by
   cases rows2 with
   | nil => exact absurd rfl hm
   | cons => simp
  -- either the same block, or a new one, and the elder block is asL it was
  have hat2 : v'.ownBlock = (g.tv r).ownBlock ∨ ∀ q, q < w.heap.size → w'.heap[q]? = w.heap[q]? := by
   rcases hown.2 with ⟨h1, h2⟩ | ⟨gb, cap, cur, h1, _, h3, h4, _⟩
   ·have hr2 := run_append_nil (P := P) (w := w) t ty k.ty i z ht hi hzi ⟨b, off, none⟩ rows2.length c news (by rw [hnl, hsz]) hnews hpos2 (by omega) (by rw [hbi]; have := Nat.mul_le_mul (show rows2.length ≤ 137438953472 by omega) hby; omega)
    rw [h1] at hr'
    rw [hr'] at hr2
    injection hr2 with _ hw2
    right
    intro q hq
    rw [hw2]
    exact Below.heap_alloc w.drew _ q hq
   ·by_cases hroom : k.len + rows2.length ≤ cap
    ·have hcs : k.len * i.size + news.length ≤ cur.size := by
      rename_i _ h6
      obtain ⟨_, h6, _⟩ := h6
      rw [hnl, hsz, h6, ← Nat.add_mul]
      exact Nat.mul_le_mul_right _ hroom
     have hr2 := run_append_room (P := P) w t ty k.ty i ht hi gb k.len cap cur h3 ⟨b, off, none⟩ rows2.length c news (by rw [hnl, hsz]) hnews hone hroom hcs
     rw [h1] at hr'
     rw [hr'] at hr2
     injection hr2 with hv2 _
     left
     rw [hv2, h1]; rfl
    ·have holds := hown.cells (g := gb) (by rw [h1]; rfl)
     have hr2 := run_append_grow (P := P) w t ty k.ty i z ht hi hzi ⟨gb, 0, none⟩ k.len cap xs (by rw [hown.1, hsz]) holds ⟨b, off, none⟩ rows2.length c news (by rw [hnl, hsz]) hnews (by omega) (by omega) (growslice_fits_wide (by omega) (by
      rw [hbi]
      have := Nat.mul_le_mul (show k.len + rows2.length + (k.len + rows2.length) / 4 + 192 ≤ 274877906944 by omega) hby
      omega))
     rw [h1] at hr'
     rw [hr'] at hr2
     injection hr2 with _ hw2
     right
     intro q hq
     rw [hw2]
     exact Below.heap_alloc w.drew _ q hq
  have hkeep : ∀ q o, (g.tv r).ownBlock = some q → o < k.len * k.st → w'.cell? ⟨q, o, none⟩ = w.cell? ⟨q, o, none⟩ := fun q o hq ho => by
   rcases hat2 with h2 | h2
   ·have h1 := hown.cells (g := q) hq o xs[o] (List.getElem?_eq_getElem (by omega))
    rw [Addr.add_lit, Nat.zero_add] at h1
    rw [h1]
    have h3 := hown'.cells (g := q) (h2.trans hq) o xs[o] (by rw [List.getElem?_append_left (by omega)]; exact List.getElem?_eq_getElem (by omega))
    rw [Addr.add_lit, Nat.zero_add] at h3
    exact h3
   ·exact cell_block (h2 q (hown.lt q hq).2)
  obtain ⟨h1, e1⟩ := hk.append (m := rows2.length) (v' := v') (w' := w') (xs := xs ++ news) hr hex hown' hg hbel hkeep hat (fun h => absurd (List.eq_nil_of_length_eq_zero h) hm)
  refine ⟨_, v', w', by rw [hve, hxe]; exact hr', h1, .grow r _ _ ?_ fun n' hn' => ?_⟩
  ·suffices key : ∀ G : Nat → Nat → Prop, (∀ b o, growF g.F v' ((k.len + rows2.length) * k.st) b o → G b o) → Reads w' G (.sl (rows ++ rows2)) v' from key _ (fun _ _ h => h)
   intro G hG
   rcases hown'.2 with ⟨_, h2⟩ | ⟨gb2, cap2, cur, hv2, _, _, hcap, _⟩
   ·omega
   ·have hll : (rows ++ rows2).length = k.len + rows2.length := by rw [List.length_append, hlen]
    rw [hv2, ← hll]
    have hcell' := hown'.cells (g := gb2) (by rw [hv2]; rfl)
    refine Reads.mk (st := k.st) (by omega) (fun i hi => ?_) fun i hi j hj => ?_
    ·rcases List.mem_append.1 (List.getElem_mem hi) with h3 | h3
     ·exact hfit0 _ h3
     ·exact (hfit _ h3).1
    ·have hF : growF g.F v' ((k.len + rows2.length) * k.st) gb2 (0 + i * k.st + j) := by
      right
      refine ⟨by rw [hv2]; rfl, ?_⟩
      have hjs : j < k.st := by
       rcases List.mem_append.1 (List.getElem_mem hi) with h3 | h3
       ·rw [hfit0 _ h3] at hj; exact hj
       ·rw [(hfit _ h3).1] at hj; exact hj
      have := Nat.mul_le_mul_right k.st (show i + 1 ≤ k.len + rows2.length by omega)
      rw [Nat.add_mul] at this; omega
     refine ⟨hG _ _ hF, ?_⟩
     by_cases hlt : i < rows.length
     ·have hrow : (rows ++ rows2)[i] = rows[i] := List.getElem_append_left hlt
      have hj1 : j < rows[i].length := by rw [← hrow]; exact hj
      have hel : (rows ++ rows2)[i][j] = rows[i][j] := by congr 1
      have hst1 : rows[i].length = k.st := hfit0 _ (List.getElem_mem hlt)
      obtain ⟨q, cc, hve2, _⟩ := hrd.slice
      have hrd2 := hrd
      rw [hve2] at hrd2
      obtain ⟨b1, off1, rfl, hc1⟩ := hrd2.row i hlt hst1
      obtain ⟨_, u, hu, hru⟩ := hc1 j hj1
      rcases hown.2 with ⟨h5, h6⟩ | ⟨gb, cap, cur1, h5, _⟩
      ·omega
      ·rw [← hve, hve2] at h5
       injection h5 with h7 _ _
       injection h7 with h8
       have hb1 : b1 = gb := congrArg Addr.block h8
       have ho1 : off1 = 0 := congrArg Addr.off h8
       subst hb1 ho1
       have hm1 : i * k.st + j < xs.length := by
        rw [hown.1]
        have := Nat.mul_le_mul_right k.st (show i + 1 ≤ k.len by omega)
        rw [Nat.add_mul] at this; omega
       have h9 := hown.cells (g := b1) (by rw [← hve, hve2]; rfl) (i * k.st + j) xs[i * k.st + j] (List.getElem?_eq_getElem hm1)
       rw [Addr.add_lit] at h9
       have hu' : xs[i * k.st + j] = u := by
        rw [Nat.add_assoc] at hu
        exact Option.some.inj (h9.symm.trans hu)
       have h10 := hcell' (i * k.st + j) u (by rw [List.getElem?_append_left hm1, List.getElem?_eq_getElem hm1, hu'])
       rw [Addr.add_lit] at h10
       rw [hel]
       exact ⟨u, by rw [Nat.add_assoc]; exact h10, hru.mono (fun b o hf => hG b o (e1.hF b o hf)) e1.hw⟩
     ·have hi2 : i - rows.length < rows2.length := by rw [List.length_append] at hi; omega
      have hrow : (rows ++ rows2)[i] = rows2[i - rows.length] := List.getElem_append_right (by omega)
      have hj1 : j < rows2[i - rows.length].length := by rw [← hrow]; exact hj
      have hel : (rows ++ rows2)[i][j] = rows2[i - rows.length][j] := by congr 1
      obtain ⟨u, hu, hru⟩ := hnr _ hi2 j hj1
      have hidx : i * k.st + j - xs.length = (i - rows.length) * k.st + j := by
       rw [hown.1, ← hlen, Nat.sub_mul]
       have := Nat.mul_le_mul_right k.st (show rows.length ≤ i by omega)
       omega
      have hge : xs.length ≤ i * k.st + j := by
       rw [hown.1, ← hlen]
       have := Nat.mul_le_mul_right k.st (show rows.length ≤ i by omega)
       omega
      have h10 := hcell' (i * k.st + j) u (by rw [List.getElem?_append_right hge, hidx]; exact hu)
      rw [Addr.add_lit] at h10
      rw [hel]
      exact ⟨u, by rw [Nat.add_assoc]; exact h10, hru.mono (fun b o hf => hG b o (e1.hF b o hf)) e1.hw⟩
  ·rw [htk] at hn'
   cases hn'
   exact ⟨by rw [List.length_append]; omega, fun _ => by simp only [updN_same]⟩
theorem opOk_appendW {o : Oper} {t : TypeId} {p q : Operand} {r : Nat} {rows rows2 : List (List D)} {k : Tok} {z : Value} (ho : o.op = .call { callee := .builtin .append, args := #[p, q], argTypes := #[t, t] }) (hp : σ.eval p = .grow r rows) (hq : (σ.eval q).rows = some rows2) (hr : σ.tok r = some k) (hex : k.ex = none)
  (ht : P.underlying t = some (.slice k.ty)) (hz : zeroOf P k.ty = some z) (hzs : z.cells.size = P.cellsOf k.ty) (h0 : P.cellsOf k.ty ≠ 0) (hst : P.cellsOf k.ty = k.st) (hby : P.bytesOf k.ty ≤ 1024) (hlen : rows.length = k.len) (hfit : rowsFit k.st rows2) (hfit0 : ∀ r ∈ rows, r.length = k.st) (hbd : rows.length + rows2.length ≤ 137438953472) :
  OpOk P A o σ (σ.setTok r (some { k with len := k.len + rows2.length })) (.grow r (rows ++ rows2)) := by
 refine opOk_run fun g a w hk => ?_
 have hpe := hk.eval p
 rw [hp] at hpe
 obtain ⟨g', v', w', h1, h2, h3⟩ := hk.appendedW (P := P) (t := t) (ty := o.type) hr hex hpe hlen ((hk.eval q).rows hq) ht hz hzs h0 hst hby hfit hfit0 hbd
 exact ⟨g', v', w', by simp only [execOp, ho, resolve, invoke, builtin, List.map_toArray, List.map_cons, List.map_nil, Sem.run_bind, Sem.run_pure, Result.andThen_ok, h1], h2, h3⟩
end
section
open Go Go.RowKit
def zeroMo : Mo := ⟨⟨#[]⟩, [], []⟩
def keepD (s : Sq) (k : Nat) (d : Dc) : List Dc := if d.id = s.id then (if (stdX d s k).2.1 = true then [(stdX d s k).1] else []) else [d]
def errD (s : Sq) (k : Nat) (l : List Dc) (q : Nat) : Int := if (atD l q).id = s.id then (stdX (atD l q) s k).2.2 else 0
def keptD (s : Sq) (k : Nat) (l : List Dc) (q : Nat) : List Dc := (l.take q).flatMap (keepD s k)
def mstX (x : Mo) (s : Sq) (k : Nat) : Mo × Int :=
 if ¬ bindX x = 0 then (zeroMo, bindX x) else if (confQ x).any (eqQ s) = false then (zeroMo, 8) else if k = 1 ∧ (s.kind = 3 ∨ s.kind = 4) then (zeroMo, 2)
 else if ¬ firstN (errD s k x.decls) x.decls.length = 0 then (zeroMo, firstN (errD s k x.decls) x.decls.length) else (⟨x.label, x.uses, keptD s k x.decls x.decls.length⟩, 0)
theorem keptD_succ (s : Sq) (k : Nat) (l : List Dc) (q : Nat) (h : q < l.length) : keptD s k l (q + 1) = keptD s k l q ++ keepD s k l[q] := by
 unfold keptD; rw [List.take_succ_eq_append_getElem h, List.flatMap_append]; simp only [List.flatMap_cons, List.flatMap_nil, List.append_nil]
theorem keepD_le (s : Sq) (k : Nat) (d : Dc) : (keepD s k d).length ≤ 1 := by
 unfold keepD
 split
 ·split <;> simp
 ·simp
theorem keptD_le (s : Sq) (k : Nat) (l : List Dc) : ∀ q, (keptD s k l q).length ≤ q
 | 0 => by simp [keptD]
 | q + 1 => by
  by_cases h : q < l.length
  ·rw [keptD_succ s k l q h, List.length_append]
   have := keptD_le s k l q
   have := keepD_le s k l[q]
   omega
  ·have e : keptD s k l (q + 1) = keptD s k l q := by unfold keptD; rw [List.take_of_length_le (by omega), List.take_of_length_le (by omega)]
   rw [e]; exact Nat.le_succ_of_le (keptD_le s k l q)
theorem encDs_append (a b : List Dc) : encDs (a ++ b) = encDs a ++ encDs b := by simp [encDs]
theorem encDs_fit (l : List Dc) : rowsFit 11 (encDs l) := by
 intro r hr
 obtain ⟨x, _, rfl⟩ := List.mem_map.1 hr
 exact ⟨rfl, fun x hx => by simp [encD] at hx; rcases hx with rfl | rfl | rfl | rfl | rfl | rfl | rfl | rfl | rfl | rfl | rfl <;> rfl⟩
abbrev mstSt (x : Mo) (s : Sq) (k : Nat) (l : List Dc) (q : Nat) : St := ⟨[(2, .d (.raw (.int .i64 k))), (3, .box 0 0), (4, .box 1 0), (6, .box 2 0), (9, .box 8005 0), (54, .d (.sl (encDs x.decls))), (55, .d (.raw (.int .i64 x.decls.length))), (56, .d (.raw (.int .i64 q)))],
 [(0, some (.cell 53 [.d (.raw (.string x.label)), .d (.sl (encS x.uses)), .d (.sl (encDs x.decls))])), (1, some (.cell 38 [.d (.raw (.string s.label)), .d (.raw (.int .i64 s.kind)), .d (.raw (.int .i64 s.id)), .d (.raw (.int .i64 s.pos))])),
  (2, some (.cell 53 [.d (.raw (.string ⟨#[]⟩)), .d (.raw (.slice none 0 0)), .d (.raw (.slice none 0 0))])), (8005, some (.cell 53 [.d (.raw (.string x.label)), .d (.sl (encS x.uses)), .grow 99 (encDs l)]))], [(99, some ⟨11, 100, l.length, none⟩)]⟩
theorem names_size {l : List ByteArray} (h : namesX l = 0) : (l.length = 1 ∨ l.length = 3) ∧ ∀ nm ∈ l, nm.size ≤ 24 := by
 unfold namesX at h
 split at h
 ·cases h
 rename_i h1
 refine ⟨by omega, fun nm hnm => ?_⟩
 split at h
 ·cases h
 rename_i h2
 have h3 : badName l nm = false := by
  cases hb : badName l nm with
  | false => rfl
  | true => exact absurd (List.any_eq_true.2 ⟨nm, hnm, hb⟩) h2
 unfold badName at h3
 cases hn : nameB nm with
 | true => exact nameB_size hn
 | false =>
  rw [hn] at h3
  simp only [Bool.not_false, Bool.true_and, Bool.or_eq_false_iff, decide_eq_false_iff_not, Classical.not_not] at h3
  rw [h3.2]; decide
set_option maxRecDepth 100000 in
set_option maxHeartbeats 16000000 in
theorem mstSettle_c (x : Mo) (s : Sq) (k : Nat) (hk : k < 3) (hl : x.decls.length ≤ 1048576) (hb : ∀ d ∈ x.decls, nodesE d.body ≤ 524288) (hc : (confQ x).length ≤ 1048576) :
  Con Tryz.prog 34 [avM x, avQ s, .d (.raw (.int .i64 k))] (.tup [avM (mstX x s k).1, .d (.raw (.int .i64 (mstX x s k).2))]) := by
 refine con_of Tryz.func34 rfl (by decide +kernel) rfl rfl (by simp [Tryz.ntmps34]) fun A hA => ?_
 rw [Tryz.ntmps34] at hA
 refine goC 400 ?_
 have hr0 : mstX x s k = if ¬ bindX x = 0 then (zeroMo, bindX x) else if (confQ x).any (eqQ s) = false then (zeroMo, 8) else if k = 1 ∧ (s.kind = 3 ∨ s.kind = 4) then (zeroMo, 2)
  else if ¬ firstN (errD s k x.decls) x.decls.length = 0 then (zeroMo, firstN (errD s k x.decls) x.decls.length) else (⟨x.label, x.uses, keptD s k x.decls x.decls.length⟩, 0) := rfl
 simp only [go_sem, hA, avM, avQ]
 refine goCall 400 (bind_c x hb) rfl (by simp only [go_sem, avM]) (by simp only [go_sem, hA]) ?_
 by_cases hbx : bindX x = 0
 case neg =>
  have g1 : (decide ¬ bindX x = 0) = true := decide_eq_true hbx
  rw [if_pos hbx] at hr0
  simp only [go_sem, hA, g1, hr0, Tryz.results34]
  rfl
 have g1 : (decide ¬ bindX x = 0) = false := by simp [hbx]
 rw [if_neg (by simp [hbx])] at hr0
 simp only [go_sem, hA, g1, mixed]
 refine goCallD 400 (mconfs_c x hl hb) rfl (by simp only [go_sem, avM]) (by simp only [go_sem, hA]) ?_
 rw [conf_enc x]
 simp only [go_sem, hA]
 refine goCallD 400 (hasQ_c (confQ x) s hc) rfl (by simp only [go_sem, avQ]) (by simp only [go_sem, hA]) ?_
 simp only [go_sem, hA]
 refine ⟨by show chk _ _ _ = true; kernel_rfl, ?_⟩
 cases hin : (confQ x).any (eqQ s) with
 | false =>
  rw [if_pos hin] at hr0
  simp only [go_sem, hA, hr0, Tryz.results34]
  rfl
 | true =>
 rw [if_neg (by simp [hin])] at hr0
 have dk0 : decide ((k : Int) < 0) = false := decide_eq_false (by omega)
 have dk2 : decide ((2 : Int) < (k : Int)) = false := decide_eq_false (by omega)
 by_cases href : k = 1 ∧ (s.kind = 3 ∨ s.kind = 4)
 ·rw [if_pos href] at hr0
  have d1 : decide ((k : Int) = 1) = true := decide_eq_true (by have := href.1; omega)
  rcases href.2 with h | h
  ·have d3 : decide (s.kind = 3) = true := decide_eq_true h
   simp only [go_sem, hA, dk0, dk2, d1, d3, undef, hr0, Tryz.results34]
   rfl
  ·have d3 : decide (s.kind = 3) = false := decide_eq_false (by omega)
   have d4 : decide (s.kind = 4) = true := decide_eq_true h
   simp only [go_sem, hA, dk0, dk2, d1, d3, d4, hr0, Tryz.results34]
   rfl
 rw [if_neg href] at hr0
 obtain ⟨b1, d1⟩ : ∃ b, decide ((k : Int) = 1) = b := ⟨_, rfl⟩
 have d34 : b1 = true → decide (s.kind = 3) = false ∧ decide (s.kind = 4) = false := fun h => by
  subst h
  have hk1 : k = 1 := by have := of_decide_eq_true d1; omega
  exact ⟨decide_eq_false fun e => href ⟨hk1, .inl e⟩, decide_eq_false fun e => href ⟨hk1, .inr e⟩⟩
 have pre : ∀ d ∈ x.decls, d.id = s.id → inI64 d.id ∧ (s.kind = 1 → k < d.names.length) ∧ (0 < d.names.length ∨ s.kind = 2 ∨ s.kind = 3) ∧ ∀ nm ∈ d.names, nm.size ≤ 1099511627776 := fun d hd hid => by
  obtain ⟨q, hq, hqe⟩ := List.any_eq_true.1 hin
  have hqs := (eqQ_iff s q).1 hqe
  subst hqs
  obtain ⟨e, he, hat⟩ := conf_mem hq
  have hde : d = e := ids_inj hbx hd he (hid.trans hat.2.1)
  subst hde
  obtain ⟨o1, o2, _, o3, _⟩ := bdecl_ok (bd_mem hbx hd)
  have o4 := names_size o3
  refine ⟨by unfold inI64; omega, fun h1 => ?_, .inl (by omega), fun nm hnm => Nat.le_trans (o4.2 nm hnm) (by decide)⟩
  rcases hat.2.2 with h | h | h | h
  ·omega
  ·omega
  ·omega
  ·omega
 cases b1
 case' true =>
  obtain ⟨d3, d4⟩ := d34 rfl
  simp only [go_sem, hA, dk0, dk2, d1, d3, d4, encDs_length]
 case' false => simp only [go_sem, hA, dk0, dk2, d1, undef, encDs_length]
 all_goals
  refine satC_growCell 99 8005 2 11 100 (by simp only [go_sem]) rfl rfl ?_
  refine satC_loop [2, 3, 4, 6, 9, 54, 55, 56] [0, 1, 2, 8005] [99] (fun y σ => ∃ q : Nat, q ≤ x.decls.length ∧ y = x.decls.length - q ∧ firstN (errD s k x.decls) q = 0 ∧ σ = mstSt x s k (keptD s k x.decls q) q) x.decls.length ⟨0, by omega, by omega, rfl, by (simp only [go_sem, mstSt]) <;> rfl⟩ ?_
  rintro y σ ⟨q, hq, rfl, hf, rfl⟩
  by_cases hlt : q < x.decls.length
  ·have k1 : decide ((q : Int) < (x.decls.length : Int)) = true := decide_eq_true (by omega)
   have hmem := List.getElem_mem hlt
   have hat := atD_get x.decls q hlt
   have hks := keptD_succ s k x.decls q hlt
   have hkl := keptD_le s k x.decls q
   by_cases hid : x.decls[q].id = s.id
   ·obtain ⟨p1, p2, p3, p4⟩ := pre _ hmem hid
    have hfe : errD s k x.decls q = (stdX x.decls[q] s k).2.2 := by unfold errD; rw [hat, if_pos hid]
    have hke : keepD s k x.decls[q] = if (stdX x.decls[q] s k).2.1 = true then [(stdX x.decls[q] s k).1] else [] := if_pos hid
    have dd : decide (s.id = s.id) = true := decide_eq_true rfl
    have hcon := settleDecl_c x.decls[q] s k hk (Nat.le_trans (hb _ hmem) (by decide)) p1 p2 p3 p4
    refine goC 400 ?_
    simp only [go_sem, hA, mstSt, encDs_length, k1, Int.toNat_natCast, encDs_at x.decls q hlt, encD, hid]
    refine ⟨⟨by omega, by omega⟩, ?_⟩
    refine goCall 0 hcon rfl (by simp only [go_sem, avD, avQ, hid]) (by simp only [go_sem, hA]) ?_
    generalize stdX x.decls[q] s k = r at hfe hke
    obtain ⟨e, ok, er⟩ := r
    simp only at hfe hke
    by_cases he : er = 0
    ·subst he
     cases ok with
     | true =>
      rw [hke, if_pos rfl] at hks
      refine go_ok 96 _ _ _ _ ?_
      simp only [go_sem, hA, avD]
      refine goStep 400 (by simp only [go_sem]) (opOk_appendW (rows2 := encDs [e]) (k := ⟨11, 100, (keptD s k x.decls q).length, none⟩) rfl rfl rfl rfl rfl (by kernel_rfl) zero_100 (by kernel_rfl) (by rw [show Tryz.prog.cellsOf 100 = 11 by kernel_rfl]; decide) (by kernel_rfl) (by rw [show Tryz.prog.bytesOf 100 = 136 by kernel_rfl]; decide) (encDs_length _) (encDs_fit _) (fun r hr => (encDs_fit _ r hr).1) (by rw [encDs_length, encDs_length, List.length_singleton]; omega)) (by simp only [go_sem, hA]) ?_
      simp only [go_sem, hA]
      exact ⟨by unfold inI64; omega, x.decls.length - (q + 1), by omega, q + 1, by omega, rfl, firstN_step hf hfe, by rw [hks, encDs_append, List.length_append]; rfl⟩
     | false =>
      rw [hke, if_neg (by simp), List.append_nil] at hks
      refine go_ok 400 _ _ _ _ ?_
      simp only [go_sem, hA, avD]
      exact ⟨by unfold inI64; omega, x.decls.length - (q + 1), by omega, q + 1, by omega, rfl, firstN_step hf hfe, by rw [hks]; rfl⟩
    ·have de : decide (¬ er = 0) = true := decide_eq_true he
     rw [firstN_hit hf hlt (by rw [hfe]; exact he), hfe, if_pos he] at hr0
     refine go_ok 400 _ _ _ _ ?_
     simp only [go_sem, hA, avD, de, hr0, Tryz.results34]
     rfl
   ·have hfe : errD s k x.decls q = 0 := by unfold errD; rw [hat, if_neg hid]
    have hke : keepD s k x.decls[q] = [x.decls[q]] := if_neg hid
    rw [hke] at hks
    have dd : decide (x.decls[q].id = s.id) = false := decide_eq_false hid
    refine goC 81 ?_
    simp only [go_sem, hA, mstSt, encDs_length, k1, Int.toNat_natCast, encDs_at x.decls q hlt, encD, dd]
    refine ⟨⟨by omega, by omega⟩, ?_⟩
    refine goStep 400 (by simp only [go_sem]) (opOk_appendW (rows2 := encDs [x.decls[q]]) (k := ⟨11, 100, (keptD s k x.decls q).length, none⟩) rfl rfl rfl rfl rfl (by kernel_rfl) zero_100 (by kernel_rfl) (by rw [show Tryz.prog.cellsOf 100 = 11 by kernel_rfl]; decide) (by kernel_rfl) (by rw [show Tryz.prog.bytesOf 100 = 136 by kernel_rfl]; decide) (encDs_length _) (encDs_fit _) (fun r hr => (encDs_fit _ r hr).1) (by rw [encDs_length, encDs_length, List.length_singleton]; omega)) (by simp only [go_sem, hA]) ?_
    simp only [go_sem, hA]
    exact ⟨by unfold inI64; omega, x.decls.length - (q + 1), by omega, q + 1, by omega, rfl, firstN_step hf hfe, by rw [hks, encDs_append, List.length_append]; rfl⟩
  ·have k1 : decide ((q : Int) < (x.decls.length : Int)) = false := decide_eq_false (by omega)
   obtain rfl : q = x.decls.length := by omega
   rw [if_neg (by simp [hf])] at hr0
   refine goC 400 ?_
   simp only [go_sem, hA, mstSt, k1, hr0, Tryz.results34]
end
section
open Go Go.RowKit
def confMQ (x : Mo) : List Sq := if bindX x = 0 then confQ x else []
def listQ (m : Mg) : List Sq := m.ms.flatMap confMQ ++ m.ts.map fun x => ⟨x.path, 5, 0, 0⟩
theorem confM_enc (x : Mo) : confM x = encQs (confMQ x) := by
 unfold confM confMQ
 split
 ·exact conf_enc x
 ·rfl
theorem flat_enc (l : List Mo) : l.flatMap confM = encQs (l.flatMap confMQ) := by
 induction l with
 | nil => rfl
 | cons x l ih => rw [List.flatMap_cons, List.flatMap_cons, confM_enc, ih]; simp [encQs]
theorem listG_enc (m : Mg) : listG m = encQs (listQ m) := by
 unfold listG textsP modsP listQ
 rw [List.take_length, List.take_length, flat_enc]
 simp [encQs, encQ, Function.comp_def]
theorem confM_fit (x : Mo) : rowsFit 4 (confM x) := by rw [confM_enc]; exact encQs_fit _
set_option maxRecDepth 10000 in
theorem spotsQ_len2 (x : Mo) (hb : ∀ d ∈ x.decls, confE d.body ≤ 400) : ∀ n, (spotsQ x n).1.length ≤ n * 403
 | 0 => by simp [spotsQ]
 | n + 1 => by
  have ih := spotsQ_len2 x hb n
  by_cases hn : n < x.decls.length
  ·have e : spotsQ x (n + 1) = spotsDQ x.label (spotsQ x n) x.decls[n] := by
    unfold spotsQ
    rw [List.take_succ_eq_append_getElem hn, List.foldl_append]; rfl
   have h1 := hb _ (List.getElem_mem hn)
   have hp : ∀ (b : Bool) (q : Sq) (l : List Sq), (preQ b q l).length ≤ l.length + 1 := fun b q l => by cases b <;> simp [preQ]
   have h3 := hp (decide (x.decls[n].names.length = 1) && hasS (spotsQ x n).2 (one3 x.decls[n])) ⟨x.label, 4, x.decls[n].id, 0⟩ (preQ x.decls[n].doubt ⟨x.label, 3, x.decls[n].id, 0⟩ (midQ x.label x.decls[n].id (confE x.decls[n].body) (preQ (decide (x.decls[n].names.length = 3)) ⟨x.label, 1, x.decls[n].id, 0⟩ (spotsQ x n).1)))
   have h4 := hp x.decls[n].doubt ⟨x.label, 3, x.decls[n].id, 0⟩ (midQ x.label x.decls[n].id (confE x.decls[n].body) (preQ (decide (x.decls[n].names.length = 3)) ⟨x.label, 1, x.decls[n].id, 0⟩ (spotsQ x n).1))
   have h5 := hp (decide (x.decls[n].names.length = 3)) ⟨x.label, 1, x.decls[n].id, 0⟩ (spotsQ x n).1
   have h6 : (midQ x.label x.decls[n].id (confE x.decls[n].body) (preQ (decide (x.decls[n].names.length = 3)) ⟨x.label, 1, x.decls[n].id, 0⟩ (spotsQ x n).1)).length = (preQ (decide (x.decls[n].names.length = 3)) ⟨x.label, 1, x.decls[n].id, 0⟩ (spotsQ x n).1).length + confE x.decls[n].body := by simp [midQ]
   rw [e]
   unfold spotsDQ
   simp only
   generalize preQ (decide (x.decls[n].names.length = 3)) _ _ = l1 at h3 h4 h5 h6 ⊢
   generalize midQ _ _ _ l1 = l2 at h3 h4 h6 ⊢
   generalize preQ x.decls[n].doubt _ l2 = l3 at h3 h4 ⊢
   generalize preQ _ _ l3 = l4 at h3 ⊢
   generalize confE x.decls[n].body = c at h1 h6
   rw [Nat.succ_mul]
   generalize n * 403 = m at ih ⊢
   generalize (spotsQ x n).1.length = k0 at ih h5
   clear hp e hb hn
   omega
  ·have e : spotsQ x (n + 1) = spotsQ x n := by
    unfold spotsQ
    rw [List.take_of_length_le (by omega), List.take_of_length_le (by omega)]
   rw [e]; exact Nat.le_trans ih (Nat.mul_le_mul_right _ (Nat.le_succ n))
theorem confQ_few {x : Mo} (h : bindX x = 0) : (confQ x).length ≤ 40300 := by
 have h1 := spotsQ_len2 x (fun d hd => Nat.le_trans (confE_nodes d.body) (checkX_ok (bdecl_ok (bd_mem h hd)).2.2.2.2.1).1) x.decls.length
 have h2 := Nat.mul_le_mul_right 403 (bind_decls h).2.1
 unfold confQ
 exact Nat.le_trans h1 h2
theorem confM_few (x : Mo) : (confM x).length ≤ 40300 := by
 rw [confM_enc, encQs_length]
 unfold confMQ
 split
 ·exact confQ_few (by assumption)
 ·simp
theorem modsP_few (m : Mg) (hl : m.ms.length ≤ 1048576) (q : Nat) : (modsP m q).length ≤ 1099500000000 := by
 have key : ∀ l : List Mo, (l.flatMap confM).length ≤ l.length * 40300 := by
  intro l
  induction l with
  | nil => simp
  | cons x l ih =>
   have := confM_few x
   rw [List.flatMap_cons, List.length_append, List.length_cons, Nat.succ_mul]
   omega
 have h1 := key (m.ms.take q)
 have h2 : (m.ms.take q).length ≤ 1048576 := by rw [List.length_take]; omega
 have h3 := Nat.mul_le_mul_right 40300 h2
 unfold modsP
 omega
end
end Go.Proofs.YtnjedgpidalioaaGreatDoor
