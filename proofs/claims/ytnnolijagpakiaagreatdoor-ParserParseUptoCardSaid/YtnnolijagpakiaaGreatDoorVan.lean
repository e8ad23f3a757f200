/- Texts of this proof, part 14: what the proof uses of them. -/
import Derived.Test.YtnnolijagpakiaaGreatDoorVam
import Derived.Test.YtnnolijagpakiaaGreatDoorVag
import Derived.Lib.Builder
import Derived.Lib.AppendStr
import Derived.Lib.UnsafeStr
import Derived.WalkKit
import Derived.Laws.Externs
import Derived.Lib.Hide
import Derived.Test.YtnnolijagpakiaaGreatDoorVah
import Derived.Test.YtnnolijagpakiaaGreatDoorVae
namespace Go.Proofs.YtnnolijagpakiaaGreatDoor
section
open Go Go.RowKit
abbrev keysS (fs : List ByteArray) : List Value := fs.map Value.string
abbrev truesS (fs : List ByteArray) : List AV := List.replicate fs.length (.d (.raw (.bool true)))
theorem findIx_keys (s : ByteArray) : ∀ fs : List ByteArray, (findIx (.string s) (keysS fs)).isSome = hasS fs s
 | [] => rfl
 | f :: fs => by
  have ih := findIx_keys s fs
  simp only [keysS, List.map_cons, findIx, keyEq, hasS, List.any_cons]
  by_cases h : s = f
  ·subst h; simp
  ·have h' : ¬ f = s := fun e => h e.symm
   simp only [h, h', decide_false, Bool.false_eq_true, if_false, Option.isSome_map, Bool.false_or]
   exact ih
theorem findIx_lt (s : ByteArray) : ∀ (fs : List ByteArray) (i : Nat), findIx (.string s) (keysS fs) = some i → i < fs.length
 | [], i, h => by simp [keysS, findIx] at h
 | f :: fs, i, h => by
  simp only [keysS, List.map_cons, findIx] at h
  split at h
  ·cases h; simp
  ·cases hf : findIx (.string s) (keysS fs) with
   | none => rw [show List.map Value.string fs = keysS fs from rfl, hf] at h; cases h
   | some j =>
    rw [show List.map Value.string fs = keysS fs from rfl, hf] at h
    cases h
    have := findIx_lt s fs j hf
    simp; omega
theorem keysS_fit (fs : List ByteArray) : (keysS fs).all (keyFit .string) = true := by
 rw [List.all_eq_true]
 intro x hx
 obtain ⟨s, _, rfl⟩ := List.mem_map.1 hx
 rfl
theorem mentL_rep (r n : Nat) : mentL r (List.replicate n (AV.d (D.raw (Value.bool true)))) = false := by
 induction n with
 | zero => rfl
 | succ n ih => rw [List.replicate_succ, mentL, ih]; rfl
end
section
open Go Go.RowKit
end
section
open Go Go.RowKit
end
section
open Go Go.RowKit
structure Dc where
 id : Int
 kind : Int
 pub : Bool
 names : List ByteArray
 doubt : Bool
 body : Ex
def encD (x : Dc) : List D := [.raw (.int .i64 x.id), .raw (.int .i64 x.kind), .raw (.bool x.pub), .sl (encS x.names), .raw (.bool x.doubt), .raw (.int .i64 x.body.kind), .raw (.string x.body.name), .raw (.string x.body.more), .raw (.int .i64 x.body.int), .raw (.int .i64 x.body.den), .sl (encL x.body.sub)]
def avD (x : Dc) : AV := .agg [.d (.raw (.int .i64 x.id)), .d (.raw (.int .i64 x.kind)), .d (.raw (.bool x.pub)), .d (.sl (encS x.names)), .d (.raw (.bool x.doubt)), .d (.raw (.int .i64 x.body.kind)), .d (.raw (.string x.body.name)), .d (.raw (.string x.body.more)), .d (.raw (.int .i64 x.body.int)), .d (.raw (.int .i64 x.body.den)), .d (.sl (encL x.body.sub))]
theorem con_s1 {P : Program} {f : FuncId} {s : ByteArray} {r : Value} (he : Enters P f) (h : ∀ (w : World), Calls P f #[.string s] w fun e w' => e = .returned r ∧ Below w.heap.size w w') : Con P f [.d (.raw (.string s))] (.d (.raw r)) := by
 refine ⟨he, rfl, fun F w vs hF _ hl hv => ?_⟩
 match vs, hl with
 | [v], _ =>
  have h0 := hv 0 (by simp) (by simp)
  simp only [List.getElem_cons_zero] at h0
  unfold HasC at h0
  rw [h0.raw_eq]
  exact (h w).mono fun e w' h' => ⟨r, h'.1, .d (.raw _), h'.2⟩
theorem rName_c (s : ByteArray) : Con Tryz.prog 127 [.d (.raw (.string s))] (.d (.raw (.bool (nameB s)))) := con_s1 ⟨_, Tryz.func127, by decide +kernel, rfl⟩ fun w => rName_any s w
def badName (l : List ByteArray) (s : ByteArray) : Bool := !nameB s && (decide (l.length = 1) || decide (¬ s = ⟨#[]⟩))
def checkDX (x : Dc) : Int :=
 if x.id < 0 ∨ 999999 < x.id then 2 else if x.kind < 1 ∨ 3 < x.kind then 9 else if ¬ x.names.length = 1 ∧ ¬ x.names.length = 3 then 1 else
 if x.names.any (badName x.names) then 6 else checkX x.body
abbrev cdSt (x : Dc) (q : Nat) : St := ⟨[(1, .box 0 0), (2, .d (.raw (.int .i64 0))), (3, .d (.raw (.int .i64 q)))], [(0, some (.cell 57 [.d (.raw (.int .i64 x.id)), .d (.raw (.int .i64 x.kind)), .d (.raw (.bool x.pub)), .d (.sl (encS x.names)), .d (.raw (.bool x.doubt)), .d (.raw (.int .i64 x.body.kind)), .d (.raw (.string x.body.name)), .d (.raw (.string x.body.more)), .d (.raw (.int .i64 x.body.int)), .d (.raw (.int .i64 x.body.den)), .d (.sl (encL x.body.sub))]))], []⟩
set_option maxRecDepth 100000 in
set_option maxHeartbeats 8000000 in
theorem rCheckDecl_c (x : Dc) (hb : nodesE x.body ≤ 524288) : Con Tryz.prog 71 [avD x] (.d (.raw (.int .i64 (checkDX x)))) := by
 have cc := rCheckExpr_c x.body (by omega)
 refine con_of Tryz.func71 rfl (by decide +kernel) rfl rfl (by simp [Tryz.ntmps71]) fun A hA => ?_
 rw [Tryz.ntmps71] at hA
 refine goC 400 ?_
 by_cases h1 : x.id < 0
 ·have g1 : decide (x.id < 0) = true := decide_eq_true h1
  have he : checkDX x = 2 := by unfold checkDX; rw [if_pos (.inl h1)]
  simp only [go_sem, hA, avD, g1, he, Tryz.results71]
 have g1 : decide (x.id < 0) = false := decide_eq_false h1
 by_cases h2 : 999999 < x.id
 ·have g2 : decide (999999 < x.id) = true := decide_eq_true h2
  have he : checkDX x = 2 := by unfold checkDX; rw [if_pos (.inr h2)]
  simp only [go_sem, hA, avD, g1, g2, he, Tryz.results71]
 have g2 : decide (999999 < x.id) = false := decide_eq_false h2
 by_cases h3 : x.kind < 1
 ·have g3 : decide (x.kind < 1) = true := decide_eq_true h3
  have he : checkDX x = 9 := by unfold checkDX; rw [if_neg (by omega), if_pos (.inl h3)]
  simp only [go_sem, hA, avD, g1, g2, g3, he, Tryz.results71]
 have g3 : decide (x.kind < 1) = false := decide_eq_false h3
 by_cases h4 : 3 < x.kind
 ·have g4 : decide (3 < x.kind) = true := decide_eq_true h4
  have he : checkDX x = 9 := by unfold checkDX; rw [if_neg (by omega), if_pos (.inr h4)]
  simp only [go_sem, hA, avD, g1, g2, g3, g4, he, Tryz.results71]
 have g4 : decide (3 < x.kind) = false := decide_eq_false h4
 by_cases h5 : ¬ x.names.length = 1 ∧ ¬ x.names.length = 3
 ·have g5 : (decide ¬ (x.names.length : Int) = 1) = true := decide_eq_true (by omega)
  have g6 : (decide ¬ (x.names.length : Int) = 3) = true := decide_eq_true (by omega)
  have he : checkDX x = 1 := by unfold checkDX; rw [if_neg (by omega), if_neg (by omega), if_pos h5]
  simp only [go_sem, hA, avD, g1, g2, g3, g4, g5, g6, encS_length, he, Tryz.results71]
 have h6 : x.names.length = 1 ∨ (¬ x.names.length = 1 ∧ x.names.length = 3) := by omega
 have he : checkDX x = if x.names.any (badName x.names) then 6 else checkX x.body := by unfold checkDX; rw [if_neg (by omega), if_neg (by omega), if_neg h5]
 rcases h6 with h6 | ⟨h6, h7⟩
 case' inl =>
  have g5 : (decide ¬ (x.names.length : Int) = 1) = false := decide_eq_false (by omega)
  have g7 : decide ((x.names.length : Int) = 1) = true := decide_eq_true (by omega)
  simp only [go_sem, hA, avD, g1, g2, g3, g4, g5, encS_length]
 case' inr =>
  have g5 : (decide ¬ (x.names.length : Int) = 1) = true := decide_eq_true (by omega)
  have g6 : (decide ¬ (x.names.length : Int) = 3) = false := decide_eq_false (by omega)
  have g7 : decide ((x.names.length : Int) = 1) = false := decide_eq_false (by omega)
  simp only [go_sem, hA, avD, g1, g2, g3, g4, g5, g6, encS_length]
 all_goals
  refine satC_loop [1, 2, 3] [0] [] (fun y σ => ∃ q : Nat, q ≤ x.names.length ∧ y = x.names.length - q ∧ (x.names.take q).any (badName x.names) = false ∧ σ = cdSt x q) x.names.length ⟨0, by omega, by omega, rfl, by simp only [go_sem, cdSt]⟩ ?_
  rintro y σ ⟨q, hq, rfl, hf, rfl⟩
  refine goC 400 ?_
  by_cases hlt : q < x.names.length
  ·have k1 : decide ((q : Int) < (x.names.length : Int)) = true := decide_eq_true (by omega)
   have hc := rName_c x.names[q]
   simp only [go_sem, hA, cdSt, encS_length, k1, Int.toNat_natCast, encS_at x.names q hlt]
   refine ⟨⟨by omega, by omega⟩, ?_⟩
   have hbad : badName x.names x.names[q] = true → checkDX x = 6 := fun h => by
    rw [he, if_pos]
    rw [List.any_eq_true]
    exact ⟨_, List.getElem_mem hlt, h⟩
   have hgood : badName x.names x.names[q] = false → (x.names.take (q + 1)).any (badName x.names) = false := fun h => by
    rw [List.take_succ_eq_append_getElem hlt, List.any_append, hf]
    simp [h]
   have g7' : decide (x.names.length = 1) = decide ((x.names.length : Int) = 1) := decide_eq_decide.2 (by omega)
   obtain ⟨one, g8⟩ : ∃ one, decide ((x.names.length : Int) = 1) = one := ⟨_, rfl⟩
   rw [g8] at g7'
   cases hn : nameB x.names[q] with
   | true =>
    rw [hn] at hc
    have hb := hgood (by unfold badName; rw [hn]; rfl)
    refine goCall 300 hc rfl (by simp only [go_sem]) (by simp only [go_sem, hA]) ?_
    simp only [go_sem, hA, undef]
    exact ⟨by unfold inI64; omega, x.names.length - (q + 1), by omega, q + 1, by omega, rfl, hb, rfl⟩
   | false =>
    rw [hn] at hc
    refine goCall 300 hc rfl (by simp only [go_sem]) (by simp only [go_sem, hA]) ?_
    cases one with
    | true =>
     have hb := hbad (by unfold badName; rw [hn, g7']; rfl)
     simp only [go_sem, hA, encS_length, g8, hb, Tryz.results71]
    | false =>
     by_cases hz : x.names[q] = ⟨#[]⟩
     ·have hb := hgood (by unfold badName; rw [hn, g7', hz]; rfl)
      have k2 : decide (¬ x.names[q] = ⟨#[]⟩) = false := decide_eq_false (fun h => h hz)
      simp only [go_sem, hA, encS_length, g8, Int.toNat_natCast, encS_at x.names q hlt, k2]
      exact ⟨⟨by omega, by omega⟩, by unfold inI64; omega, x.names.length - (q + 1), by omega, q + 1, by omega, rfl, hb, rfl⟩
     ·have hb := hbad (by unfold badName; rw [hn, g7']; simp [hz])
      have k2 : decide (¬ x.names[q] = ⟨#[]⟩) = true := decide_eq_true hz
      simp only [go_sem, hA, encS_length, g8, Int.toNat_natCast, encS_at x.names q hlt, k2, hb, Tryz.results71]
      exact ⟨by omega, by omega⟩
  ·have k1 : decide ((q : Int) < (x.names.length : Int)) = false := decide_eq_false (by omega)
   obtain rfl : q = x.names.length := by omega
   rw [List.take_length] at hf
   rw [hf] at he
   simp only [go_sem, hA, cdSt, encS_length, k1]
   refine goCall 300 cc rfl (by simp only [go_sem, avE_eq]) (by simp only [go_sem, hA]) ?_
   simp only [go_sem, hA, he, Tryz.results71]
end
section
open Go Go.RowKit
end
section
open Go Go.RowKit
variable {A : Base Tryz.prog} {σ : St} {g : Gh} {a : Act} {w : World}
end
section
open Go Go.RowKit
end
section
open Go Go.RowKit
end
section
open Go Go.RowKit
end
section
open Go Go.RowKit Go.Shelf
attribute [local go_sem] Oper.semAt_some
structure CnFrame (w : World) (E : Array Value) (T : TypeId) (x : Value) (W : World) : Prop where
 e : W.heap[w.heap.size]? = some (.cells E 36 (0, 0))
 c : W.heap[w.heap.size + 1]? = some (.cells #[x] T (0, 0))
 size : w.heap.size + 1 + 1 + 1 ≤ W.heap.size
 below : Below w.heap.size w W
theorem CnFrame.grown {w : World} {E : Array Value} {T : TypeId} {x : Value} {A B : World} {row : Option Nat} (h : CnFrame w E T x A) (hg : A.grownBy B row) (hr : ∀ r, row = some r → w.heap.size ≤ r ∧ ∃ o : Obj, A.heap[r]? = some o ∧ o.isCells = false) : CnFrame w E T x B :=
 have hr' := fun r e => (hr r e).2
 ⟨(grownBy_keeps_cells hg hr' h.e rfl).trans h.e, (grownBy_keeps_cells hg hr' h.c rfl).trans h.c, Nat.le_trans h.size hg.size, h.below.trans ((Below.refl _ _).grown hg (by have := h.size; omega) (fun k e => (hr k e).1))⟩
theorem CnFrame.step {w : World} {E : Array Value} {T : TypeId} {x : Value} {A B : World} {base : Nat} (h : CnFrame w E T x A) (hs : ItStep base A B) (hb : w.heap.size + 1 + 1 + 1 ≤ base) : CnFrame w E T x B :=
 ⟨(hs.below.block _ (by omega)).trans h.e, (hs.below.block _ (by omega)).trans h.c, Nat.le_trans h.size hs.others.size, h.below.trans (hs.below.mono (by omega))⟩
theorem CnFrame.set {w : World} {E : Array Value} {T : TypeId} {x : Value} {A : World} (h : CnFrame w E T x A) (y : Value) : CnFrame w E T y (A.setCell ⟨w.heap.size + 1, 0, none⟩ y) :=
 ⟨(Below.heap_setCell _ _ _ _ (by simp)).trans h.e, one_setCell h.c, by simpa [World.setCell] using h.size, h.below.setCell (p := ⟨w.heap.size + 1, 0, none⟩) (by simp) _⟩
theorem cn_start (w : World) (t1 T : TypeId) (E : Array Value) (x : Value) (V : World) (hV : ((w.alloc (.cells E t1)).alloc (.cells #[x] T)).alloc (.cells E t1) = V) (h1 : t1 = 36 := by rfl) :
  CnFrame w E T x V ∧ V.heap[w.heap.size + 1 + 1]? = some (.cells E t1 (0, 0)) ∧ V.heap.size = w.heap.size + 1 + 1 + 1 := by
 subst h1
 have q1 := World.alloc_heap_new w (.cells E 36)
 have q2 := World.alloc_heap_new (w.alloc (.cells E 36)) (.cells #[x] T)
 have q3 := World.alloc_heap_new ((w.alloc (.cells E 36)).alloc (.cells #[x] T)) (.cells E 36)
 simp only [World.size_alloc] at q2 q3
 rw [hV] at q3
 refine ⟨⟨?_, ?_, ?_, ?_⟩, q3, ?_⟩ <;> rw [← hV]
 ·exact (Below.heap_alloc _ _ _ (by simp <;> omega)).trans ((Below.heap_alloc _ _ _ (by simp)).trans q1)
 ·exact (Below.heap_alloc _ _ _ (by simp)).trans q2
 ·simp
 ·exact (((Below.refl _ w).alloc (Nat.le_refl _) _).alloc (by simp) _).alloc (by simp; omega) _
 ·simp
mutual
theorem kindsE_pre (k : Int) : ∀ (d : Nat) (t : Ex), kindsE k t = (preE d t).any fun x => decide (x.2.kind = k)
 | d, .mk k' n m i dn s => by
  rw [preE, kindsE, List.any_cons, kindsL_pre k (d + 1) s]; rfl
theorem kindsL_pre (k : Int) : ∀ (d : Nat) (l : List Ex), kindsL k l = (preL d l).any fun x => decide (x.2.kind = k)
 | d, [] => by simp [kindsL, preL]
 | d, e :: es => by rw [kindsL, preL, List.any_append, kindsE_pre k d e, kindsL_pre k d es]
end
def NoRef (pre : List ItN) : Prop := ∀ x ∈ pre, x.2.1.kind ≠ 5
theorem noRef_all {t : Ex} {xs : List ItN} (h : NodesAll t xs) (hn : NoRef xs) : kindsE 5 t = false := by
 rw [kindsE_pre 5 1, ← (show _ = _ from h), List.any_eq_false]
 intro x hx
 obtain ⟨y, hy, rfl⟩ := List.mem_map.1 hx
 exact fun h => hn y hy (of_decide_eq_true h)
theorem ref_pre {t : Ex} {xs : List ItN} (h : NodesPre t xs) (hn : ∃ x ∈ xs, x.2.1.kind = 5) : kindsE 5 t = true := by
 obtain ⟨x, hx, hk⟩ := hn
 rw [kindsE_pre 5 1, List.any_eq_true]
 exact ⟨projN x, h.subset (List.mem_map_of_mem hx), decide_eq_true hk⟩
def Hr1 (w : World) (E : Array Value) (pre : List (ItN)) (W : World) : Prop := CnFrame w E 4 (.bool false) W ∧ NoRef pre
def Hr1x (w : World) (E : Array Value) (c : Code) (pre : List (ItN)) (W : World) : Prop := c = .ret ∧ CnFrame w E 4 (.bool true) W ∧ ∃ x ∈ pre, x.2.1.kind = 5
theorem hr1_own (w : World) (E : Array Value) (B : Nat) (hB : w.heap.size ≤ B) : OwnFrom B (Hr1 w E) := fun _ _ _ _ hs hg hr => ⟨hs.1.grown hg (fun r e => ⟨by have := (hr r e).1; omega, (hr r e).2⟩), hs.2⟩
theorem hr1x_own (w : World) (E : Array Value) (c : Code) (B : Nat) (hB : w.heap.size ≤ B) : OwnFrom B (Hr1x w E c) := fun _ _ _ _ hs hg hr => ⟨hs.1, hs.2.1.grown hg (fun r e => ⟨by have := (hr r e).1; omega, (hr r e).2⟩), hs.2.2⟩
set_option maxRecDepth 100000 in
set_option maxHeartbeats 4000000 in
theorem sHasRef_any (k : Int) (nm mr : ByteArray) (it d : Int) (sub : List Ex) (sv : Value) (w : World) (hm : nodesL sub ≤ 1048576) (hs : SubAt w w.heap.size sub sv) :
  Calls Tryz.prog 46 #[.agg #[.int .i64 k, .string nm, .string mr, .int .i64 it, .int .i64 d, sv]] w fun e w' => e = .returned (.bool (kindsE 5 (.mk k nm mr it d sub))) ∧ Below w.heap.size w w' := by
 obtain ⟨p, cap, rfl, hcap, _⟩ := subAt_open hs
 refine (callsIn_wide (n := 4)).1 ?_
 refine callsIn_of_wp_marks Tryz.func46 rfl trivial ?_ rfl
 simp only [Tryz.ntmps46, List.size_toArray, List.length_cons, List.length_nil, Nat.reduceAdd, Nat.reduceSub, Array.replicate_succ, Array.replicate_zero, List.push_toArray, List.append_toArray, List.nil_append, List.cons_append]
 gi_wp2_with (first | (refine ⟨trivial, ?_⟩; gi_at_call 83; refine (callsIn_wide.2 (snodes_any _ _ _ _ _ _ _ _ _)).mono ?_; rintro e w' ⟨rfl, rfl⟩))
 have HS := Lib.hid hs
 obtain ⟨V, hV⟩ : ∃ V, (((w.alloc (Obj.cells #[.int .i64 k, .string nm, .string mr, .int .i64 it, .int .i64 d, .slice p sub.length cap] 36)).alloc (Obj.cells #[Value.bool false] 4)).alloc (Obj.cells #[.int .i64 k, .string nm, .string mr, .int .i64 it, .int .i64 d, .slice p sub.length cap] 36)) = V := ⟨_, rfl⟩
 obtain ⟨hF, hb4, hz⟩ := cn_start w 36 4 #[.int .i64 k, .string nm, .string mr, .int .i64 it, .int .i64 d, .slice p sub.length cap] (.bool false) V hV
 rw [hV]
 clear hV hs
 refine wpIn_rangeFunc_A (P := Tryz.prog) (F := Fence.wide) (n := 4) rfl (by omega) (gf := 142) (lb := #[.pointer (some ⟨w.heap.size + 1 + 1, 0, none⟩)]) rfl trivial (enters_of Tryz.func142 (by kernel_rfl) rfl)
  (encs := fun x : ItN => #[.int .i64 x.1, valN x]) (Kp := KeepOut w.heap.size (w.heap.size + 1 + 1)) (R := ItStep (V.heap.size + 1 + 1)) (X := fun _ x => ExAt w w.heap.size x.2.1 (valN x))
  (S := NodesAll (.mk k nm mr it d sub)) (Sp := NodesPre (.mk k nm mr it d sub))
  (fun r l J Jx hJ _ hY hJ0 => nodes1_in 3 l (w.heap.size + 1 + 1) w.heap.size (w.heap.size + 1 + 1) (by omega) k nm mr it d sub p cap w _ HS.out (sameLow_below ((hF.below.alloc (by omega) _).alloc (by simp; omega) _)) (by omega) (Nat.le_refl _)
   ((Below.heap_alloc _ _ _ (by simp; omega)).trans ((Below.heap_alloc _ _ _ (by omega)).trans hb4)) hm J Jx (fun pre A B h1 h2 => hJ pre A B h1 (by simpa using h2)) hY hJ0)
  (fun h1 h2 => h1.trans h2) (fun W l o o' _ hl ho => KeepOut.putObj W l o o' hl ho) (fun h => h.others.from _) (fun _ => rfl)
  (Hr1 w #[.int .i64 k, .string nm, .string mr, .int .i64 it, .int .i64 d, .slice p sub.length cap]) (Hr1x w #[.int .i64 k, .string nm, .string mr, .int .i64 it, .int .i64 d, .slice p sub.length cap]) (hr1_own w _ _ (by omega)) (fun c => hr1x_own w _ c _ (by omega))
  (fun pre A B h hs => ⟨CnFrame.step h.1 hs (by omega), h.2⟩) (fun c pre A B h hs => ⟨h.1, CnFrame.step h.2.1 hs (by omega), h.2.2⟩) ⟨hF, by intro x hx; cases hx⟩
  (fun x b => { tmps := #[Value.agg #[.int .i64 k, .string nm, .string mr, .int .i64 it, .int .i64 d, .slice p sub.length cap], Value.pointer (some { block := w.heap.size, off := 0 }), Value.pointer (some { block := w.heap.size + 1, off := 0 }), undef, Value.pointer (some { block := b, off := 0 }),
        Value.agg #[.int .i64 k, .string nm, .string mr, .int .i64 it, .int .i64 d, .slice p sub.length cap], Value.func (Fn.func 142) #[] #[Value.pointer (some { block := w.heap.size + 1 + 1, off := 0 })], Value.int .i64 x.1, valN x, undef, undef, undef], defers := [] })
  (fun x => .cells #[.int .i64 x.2.1.kind, .string x.2.1.name, .string x.2.1.more, .int .i64 x.2.1.int, .int .i64 x.2.1.den, .slice x.2.2.1 x.2.1.sub.length x.2.2.2] 36) (fun W o => KeepOut.below ((Below.refl _ _).alloc (Nat.le_refl _) _)) ?assign2 ?body2 ?done2 ?stop2
 case assign2 =>
  intro l x W K hK
  gi_wp2
  exact hK
 case body2 =>
  rintro l pre x b W5 hI - hbx hbV
  obtain ⟨hF5, hno⟩ := hI
  have cr := cell_of_one hF5.c
  have fr := free_of_one hF5.c
  have g0 : W5.cell? ⟨b, 0, none⟩ = some (.int .i64 x.2.1.kind) := by simp [World.cell?, hbx]
  have HF5 := Lib.hid hF5
  have HNO := Lib.hid hno
  have hs5 := hF5.size
  clear hF5 hno hbx
  by_cases hk : x.2.1.kind = 5
  ·have hd : decide (x.2.1.kind = 5) = true := decide_eq_true hk
   have hd2 : (x.2.1.kind == 5) = true := by simpa using hk
   have HK := Lib.hid hk
   clear hk
   gi_wp2_with fail
   exact ⟨(KeepsOthers.setCell _ _ _).from _, rfl, HF5.out.set (.bool true), x, by simp, HK.out⟩
  ·have hd : decide (x.2.1.kind = 5) = false := decide_eq_false hk
   have hd2 : (x.2.1.kind == 5) = false := by simpa using hk
   have HK := Lib.hid hk
   clear hk
   gi_wp2_with fail
   refine ⟨KeepsOthers.from (KeepsOthers.refl _) _, KeepOut.below (Below.refl _ _), HF5.out, ?_⟩
   intro y hy
   rcases List.mem_append.1 hy with h | h
   ·exact HNO.out y h
   ·simp at h; subst h; exact HK.out
 case done2 =>
  rintro D xs W hD hS ⟨hI, hno⟩ hK
  have hl : kindsE 5 (.mk k nm mr it d sub) = false := noRef_all hS hno
  have c0 := cell_of_one hI.c
  have f0 := free_of_one hI.c
  have HL := Lib.hid hl
  have HI := Lib.hid (hI.set (.bool false))
  have HK := Lib.hid ((KeepsOthers.setCell W ⟨w.heap.size + 1, 0, none⟩ (.bool false)).same D _ hK rfl)
  clear hl hI hS
  gi_wp2_with fail
  refine ⟨by simp, .inl ⟨_, _, rfl, run_takeDeferred HK.out, ?_⟩⟩
  have hc5 := cell_kept (cell_of_one HI.out.c) (grownBy_putObj' _ D (.deferred none)) (fun r e => by cases e; exact ⟨_, HK.out, rfl⟩)
  refine ⟨.bool false, ?_, by rw [HL.out], HI.out.below.trans (belowK_b (w := w) (Nat.le_refl _) _ D _ _ (by omega) HK.out rfl rfl)⟩
  simp [results, Tryz.f46, go_sem, hc5]
 case stop2 =>
  rintro D c pre W hD hpre ⟨rfl, hI, hne⟩ hK
  have hl := ref_pre hpre hne
  gi_wp2_with fail
  refine ⟨by simp, .inl ⟨_, _, rfl, run_takeDeferred hK, ?_⟩⟩
  have hc5 := cell_kept (cell_of_one hI.c) (grownBy_putObj' _ D (.deferred none)) (fun r e => by cases e; exact ⟨_, hK, rfl⟩)
  refine ⟨.bool true, ?_, by rw [hl], hI.below.trans (belowK_b (w := w) (Nat.le_refl _) _ D _ _ (by omega) hK rfl rfl)⟩
  simp [results, Tryz.f46, go_sem, hc5]
end
section
open Go Go.RowKit
theorem sHasRef_c (a : Ex) (hsz : nodesE a ≤ 1048576) : Con Tryz.prog 46 [avE a] (.d (.raw (.bool (kindsE 5 a)))) := con_e1 ⟨_, Tryz.func46, by decide +kernel, rfl⟩ fun x w ha => by
 obtain ⟨ea, ha⟩ := xAt_sub ha
 rw [ea]
 rw [nodesE_eq] at hsz
 have h := sHasRef_any a.kind a.name a.more a.int a.den a.sub _ w (by omega) ha
 rw [Ex.eta] at h
 exact h
theorem sName_c (s : ByteArray) : Con Tryz.prog 161 [.d (.raw (.string s))] (.d (.raw (.bool (nameB s)))) := con_s1 ⟨_, Tryz.func161, by decide +kernel, rfl⟩ fun w => sname_any s w
theorem sLabel_c (s : ByteArray) : Con Tryz.prog 57 [.d (.raw (.string s))] (.d (.raw (.bool (labelL s.data.toList)))) := con_s1 ⟨_, Tryz.func57, by decide +kernel, rfl⟩ fun w => label_any s w
theorem rLabel_c (s : ByteArray) : Con Tryz.prog 68 [.d (.raw (.string s))] (.d (.raw (.bool (labelL s.data.toList)))) := con_s1 ⟨_, Tryz.func68, by decide +kernel, rfl⟩ fun w => (rLabel_any s w).mono fun e w' h => ⟨h.1, h.2 ▸ Below.refl _ _⟩
end
section
open Go Go.RowKit Go.MapKept
section
variable {P : Program} {A : Base P} {σ : St} {g : Gh} {a : Act} {w : World}
theorem goStep (n : Nat) {all : List Oper} {o : Oper} {rest : List Oper} {i base : Nat} {s : List Itm} {σ' : St} {Q : Exit → St → Prop} {x : AV} (hg : gdOf A.N all σ o = some true) (h : OpOk P A o σ σ' x) (hd : dstOk A.N o = true)
  (hr : go P A n (.ops all rest (i + 1) base) s (σ'.put o.dst x) Q) : SemM P A (.ops all (o :: rest) i base) s σ Q :=
 satO_cons hg (fun _ => satE_op h hd (go_ok n _ _ _ _ hr)) (fun e => by cases e) (fun e => by cases e)
end
end
section
open Go Go.RowKit
theorem ba_inj {a b : ByteArray} (h : a.data.toList = b.data.toList) : a = b := by
 apply ByteArray.ext; apply Array.ext'; exact h
end
section
open Go Go.RowKit
def namesX (l : List ByteArray) : Int := if ¬ l.length = 1 ∧ ¬ l.length = 3 then 1 else if l.any (badName l) then 6 else 0
abbrev dnSt (l : List ByteArray) (q : Nat) : St := ⟨[(0, .d (.sl (encS l))), (13, .d (.sl (encS l))), (14, .d (.raw (.int .i64 l.length))), (15, .d (.raw (.int .i64 q)))], [], []⟩
set_option maxRecDepth 100000 in
set_option maxHeartbeats 8000000 in
theorem declNames_c (l : List ByteArray) : Con Tryz.prog 114 [.d (.sl (encS l))] (.d (.raw (.int .i64 (namesX l)))) := by
 refine con_of Tryz.func114 rfl (by decide +kernel) rfl rfl (by simp [Tryz.ntmps114]) fun A hA => ?_
 rw [Tryz.ntmps114] at hA
 refine goC 400 ?_
 by_cases h5 : ¬ l.length = 1 ∧ ¬ l.length = 3
 ·have g5 : (decide ¬ (l.length : Int) = 1) = true := decide_eq_true (by omega)
  have g6 : (decide ¬ (l.length : Int) = 3) = true := decide_eq_true (by omega)
  have he : namesX l = 1 := by unfold namesX; rw [if_pos h5]
  simp only [go_sem, hA, g5, g6, encS_length, he, Tryz.results114]
 have h6 : l.length = 1 ∨ (¬ l.length = 1 ∧ l.length = 3) := by omega
 have he : namesX l = if l.any (badName l) then 6 else 0 := by unfold namesX; rw [if_neg h5]
 rcases h6 with h6 | ⟨h6, h7⟩
 case' inl =>
  have g5 : (decide ¬ (l.length : Int) = 1) = false := decide_eq_false (by omega)
  have g7 : decide ((l.length : Int) = 1) = true := decide_eq_true (by omega)
  simp only [go_sem, hA, g5, undef, encS_length]
 case' inr =>
  have g5 : (decide ¬ (l.length : Int) = 1) = true := decide_eq_true (by omega)
  have g6 : (decide ¬ (l.length : Int) = 3) = false := decide_eq_false (by omega)
  have g7 : decide ((l.length : Int) = 1) = false := decide_eq_false (by omega)
  simp only [go_sem, hA, g5, g6, encS_length]
 all_goals
  refine satC_loop [0, 13, 14, 15] [] [] (fun y σ => ∃ q : Nat, q ≤ l.length ∧ y = l.length - q ∧ (l.take q).any (badName l) = false ∧ σ = dnSt l q) l.length ⟨0, by omega, by omega, rfl, by simp only [go_sem, dnSt]⟩ ?_
  rintro y σ ⟨q, hq, rfl, hf, rfl⟩
  refine goC 400 ?_
  by_cases hlt : q < l.length
  ·have k1 : decide ((q : Int) < (l.length : Int)) = true := decide_eq_true (by omega)
   have hc := sName_c l[q]
   simp only [go_sem, hA, dnSt, encS_length, k1, Int.toNat_natCast, encS_at l q hlt]
   refine ⟨⟨by omega, by omega⟩, ?_⟩
   have hbad : badName l l[q] = true → namesX l = 6 := fun h => by
    rw [he, if_pos]
    rw [List.any_eq_true]
    exact ⟨_, List.getElem_mem hlt, h⟩
   have hgood : badName l l[q] = false → (l.take (q + 1)).any (badName l) = false := fun h => by
    rw [List.take_succ_eq_append_getElem hlt, List.any_append, hf]
    simp [h]
   have g7' : decide (l.length = 1) = decide ((l.length : Int) = 1) := decide_eq_decide.2 (by omega)
   obtain ⟨one, g8⟩ : ∃ one, decide ((l.length : Int) = 1) = one := ⟨_, rfl⟩
   rw [g8] at g7'
   cases hn : nameB l[q] with
   | true =>
    rw [hn] at hc
    have hb := hgood (by unfold badName; rw [hn]; rfl)
    refine goCall 300 hc rfl (by simp only [go_sem]) (by simp only [go_sem, hA]) ?_
    simp only [go_sem, hA, undef]
    exact ⟨by unfold inI64; omega, l.length - (q + 1), by omega, q + 1, by omega, rfl, hb, rfl⟩
   | false =>
    rw [hn] at hc
    refine goCall 300 hc rfl (by simp only [go_sem]) (by simp only [go_sem, hA]) ?_
    cases one with
    | true =>
     have hb := hbad (by unfold badName; rw [hn, g7']; rfl)
     simp only [go_sem, hA, encS_length, g8, hb, undef, Tryz.results114]
    | false =>
     by_cases hz : l[q] = ⟨#[]⟩
     ·have hb := hgood (by unfold badName; rw [hn, g7', hz]; rfl)
      have k2 : decide (¬ l[q] = ⟨#[]⟩) = false := decide_eq_false (fun h => h hz)
      simp only [go_sem, hA, encS_length, g8, k2]
      exact ⟨by unfold inI64; omega, l.length - (q + 1), by omega, q + 1, by omega, rfl, hb, rfl⟩
     ·have hb := hbad (by unfold badName; rw [hn, g7']; simp [hz])
      have k2 : decide (¬ l[q] = ⟨#[]⟩) = true := decide_eq_true hz
      simp only [go_sem, hA, encS_length, g8, k2, hb, Tryz.results114]
  ·have k1 : decide ((q : Int) < (l.length : Int)) = false := decide_eq_false (by omega)
   obtain rfl : q = l.length := by omega
   rw [List.take_length] at hf
   rw [hf] at he
   simp only [go_sem, hA, dnSt, k1, he, Tryz.results114]
def sdeclX (x : Dc) : Int :=
 if x.id < 0 ∨ 999999 < x.id then 2 else if x.kind < 1 ∨ 3 < x.kind then 9 else if ¬ namesX x.names = 0 then namesX x.names else
 if ¬ checkX x.body = 0 then checkX x.body else if kindsE 5 x.body then 9 else 0
set_option maxRecDepth 100000 in
set_option maxHeartbeats 8000000 in
theorem sdecl_c (x : Dc) (hb : nodesE x.body ≤ 524288) : Con Tryz.prog 58 [avD x] (.d (.raw (.int .i64 (sdeclX x)))) := by
 have cn := declNames_c x.names
 have cc := sCheckExpr_c x.body (by omega)
 have ck := sHasRef_c x.body (by omega)
 refine con_of Tryz.func58 rfl (by decide +kernel) rfl rfl (by simp [Tryz.ntmps58]) fun A hA => ?_
 rw [Tryz.ntmps58] at hA
 refine goC 400 ?_
 by_cases h1 : x.id < 0
 ·have g1 : decide (x.id < 0) = true := decide_eq_true h1
  have he : sdeclX x = 2 := by unfold sdeclX; rw [if_pos (.inl h1)]
  simp only [go_sem, hA, avD, g1, he, undef, Tryz.results58]
 have g1 : decide (x.id < 0) = false := decide_eq_false h1
 by_cases h2 : 999999 < x.id
 ·have g2 : decide (999999 < x.id) = true := decide_eq_true h2
  have he : sdeclX x = 2 := by unfold sdeclX; rw [if_pos (.inr h2)]
  simp only [go_sem, hA, avD, g1, g2, he, Tryz.results58]
 have g2 : decide (999999 < x.id) = false := decide_eq_false h2
 have hs0 : sdeclX x = if x.kind < 1 ∨ 3 < x.kind then 9 else if ¬ namesX x.names = 0 then namesX x.names else if ¬ checkX x.body = 0 then checkX x.body else if kindsE 5 x.body then 9 else 0 := by unfold sdeclX; rw [if_neg (by omega)]
 by_cases h3 : x.kind < 1 ∨ 3 < x.kind
 ·have g3 : (decide ¬ x.kind = 1) = true := decide_eq_true (by omega)
  have g4 : (decide ¬ x.kind = 2) = true := decide_eq_true (by omega)
  have g5 : (decide ¬ x.kind = 3) = true := decide_eq_true (by omega)
  rw [if_pos h3] at hs0
  simp only [go_sem, hA, avD, g1, g2, g3, g4, g5, hs0, Tryz.results58]
 rw [if_neg h3] at hs0
 have h4 : x.kind = 1 ∨ (¬ x.kind = 1 ∧ x.kind = 2) ∨ (¬ x.kind = 1 ∧ ¬ x.kind = 2 ∧ x.kind = 3) := by omega
 rcases h4 with h4 | ⟨h4, h4'⟩ | ⟨h4, h4', h4''⟩
 case' inl =>
  have g3 : (decide ¬ x.kind = 1) = false := decide_eq_false (by omega)
  simp only [go_sem, hA, avD, g1, g2, g3, undef]
 case' inr.inl =>
  have g3 : (decide ¬ x.kind = 1) = true := decide_eq_true (by omega)
  have g4 : (decide ¬ x.kind = 2) = false := decide_eq_false (by omega)
  simp only [go_sem, hA, avD, g1, g2, g3, g4, undef]
 case' inr.inr =>
  have g3 : (decide ¬ x.kind = 1) = true := decide_eq_true (by omega)
  have g4 : (decide ¬ x.kind = 2) = true := decide_eq_true (by omega)
  have g5 : (decide ¬ x.kind = 3) = false := decide_eq_false (by omega)
  simp only [go_sem, hA, avD, g1, g2, g3, g4, g5]
 all_goals
  refine goCall 300 cn rfl (by simp only [go_sem]) (by simp only [go_sem, hA]) ?_
  by_cases hn : namesX x.names = 0
  ·rw [if_neg (fun h => h hn)] at hs0
   have k1 : (decide ¬ namesX x.names = 0) = false := decide_eq_false (fun h => h hn)
   simp only [go_sem, hA, k1]
   refine goCall 300 cc rfl (by simp only [go_sem, avE_eq]) (by simp only [go_sem, hA]) ?_
   by_cases hc : checkX x.body = 0
   ·rw [if_neg (fun h => h hc)] at hs0
    have k2 : (decide ¬ checkX x.body = 0) = false := decide_eq_false (fun h => h hc)
    simp only [go_sem, hA, k2]
    refine goCall 300 ck rfl (by simp only [go_sem, avE_eq]) (by simp only [go_sem, hA]) ?_
    cases hk : kindsE 5 x.body with
    | true =>
     rw [hk, if_pos rfl] at hs0
     simp only [go_sem, hA, hs0, Tryz.results58]
    | false =>
     rw [hk, if_neg (by decide)] at hs0
     simp only [go_sem, hA, hs0, Tryz.results58]
   ·rw [if_pos hc] at hs0
    have k2 : (decide ¬ checkX x.body = 0) = true := decide_eq_true hc
    simp only [go_sem, hA, k2, hs0, Tryz.results58]
  ·rw [if_pos hn] at hs0
   have k1 : (decide ¬ namesX x.names = 0) = true := decide_eq_true hn
   simp only [go_sem, hA, k1, hs0, Tryz.results58]
end
section
open Go Go.RowKit
def firstN (f : Nat → Int) : Nat → Int
 | 0 => 0
 | n + 1 => if firstN f n = 0 then f n else firstN f n
theorem firstN_step {f : Nat → Int} {q : Nat} (h : firstN f q = 0) (h1 : f q = 0) : firstN f (q + 1) = 0 := by rw [firstN, if_pos h, h1]
theorem firstN_hit {f : Nat → Int} {q n : Nat} (h : firstN f q = 0) (hn : q < n) (h1 : ¬ f q = 0) : firstN f n = f q := by
 induction n with
 | zero => omega
 | succ n ih =>
  rw [firstN]
  by_cases e : q = n
  ·subst e; rw [if_pos h]
  ·have := ih (by omega)
   rw [this, if_neg h1]
theorem firstN_congr {f g : Nat → Int} : ∀ n : Nat, (∀ i, i < n → f i = g i) → firstN f n = firstN g n
 | 0, _ => rfl
 | n + 1, h => by rw [firstN, firstN, firstN_congr n (fun i hi => h i (by omega)), h n (by omega)]
structure Sr where
 uses : List ByteArray
 decls : List Dc
def encDs (l : List Dc) : List (List D) := l.map encD
def avS (x : Sr) : AV := .agg [.d (.sl (encS x.uses)), .d (.sl (encDs x.decls))]
theorem encDs_length (l : List Dc) : (encDs l).length = l.length := by simp [encDs]
theorem encDs_at (l : List Dc) (i : Nat) (h : i < l.length) : (encDs l).getD i [] = encD l[i] := by
 simp [encDs, List.getD_eq_getElem?_getD, h]
def useE (l : List ByteArray) (q : Nat) : Int := if labelL (atB l q).data.toList then (if 0 < q ∧ ltS (atB l (q - 1)) (atB l q) = false then 10 else 0) else 6
def noDc : Dc := ⟨0, 0, false, [], false, .mk 0 ⟨#[]⟩ ⟨#[]⟩ 0 0 []⟩
def atD (l : List Dc) (i : Nat) : Dc := l.getD i noDc
theorem atD_get (l : List Dc) (i : Nat) (h : i < l.length) : atD l i = l[i] := by simp [atD, List.getD_eq_getElem?_getD, h]
theorem atB_get (l : List ByteArray) (i : Nat) (h : i < l.length) : atB l i = l[i] := by simp [atB, List.getD_eq_getElem?_getD, h]
def oneOf (d : Dc) : Option ByteArray := if d.names.length = 1 then some (atB d.names 0) else none
def ones (l : List Dc) : List ByteArray := l.filterMap oneOf
def misplaced (l : List Dc) (q : Nat) : Bool := decide (0 < q) && decide (¬ (atD l q).id = 0) && (decide ((atD l (q - 1)).id = 0) || decide ((atD l q).id ≤ (atD l (q - 1)).id))
def declE (e : Dc → Int) (l : List Dc) (q : Nat) : Int :=
 if ¬ e (atD l q) = 0 then e (atD l q) else if misplaced l q then 10 else if (atD l q).names.length = 1 ∧ hasS (ones (l.take q)) (atB (atD l q).names 0) then 7 else 0
def srcX (e : Dc → Int) (x : Sr) : Int :=
 if 20 < x.uses.length then 4 else if ¬ firstN (useE x.uses) x.uses.length = 0 then firstN (useE x.uses) x.uses.length else if 100 < x.decls.length then 4 else firstN (declE e x.decls) x.decls.length
theorem ones_succ (l : List Dc) (q : Nat) (h : q < l.length) : ones (l.take (q + 1)) = ones (l.take q) ++ (if (atD l q).names.length = 1 then [atB (atD l q).names 0] else []) := by
 rw [List.take_succ_eq_append_getElem h, ones, List.filterMap_append, atD_get l q h]
 congr 1
 simp only [List.filterMap_cons, List.filterMap_nil, oneOf]
 split <;> rename_i h1 <;> split at h1 <;> simp_all
theorem keys_snoc (a : List ByteArray) (n : ByteArray) : keysS (a ++ [n]) = keysS a ++ [.string n] := by simp [keysS]
theorem trues_snoc (a : List ByteArray) (n : ByteArray) : truesS (a ++ [n]) = truesS a ++ [.d (.raw (.bool true))] := by
 simp only [truesS, List.length_append, List.length_cons, List.length_nil, Nat.zero_add, List.replicate_succ']
theorem find_none {fs : List ByteArray} {s : ByteArray} (h : hasS fs s = false) : findIx (.string s) (keysS fs) = none := by
 have := findIx_keys s fs
 rw [h] at this
 simpa using this
theorem find_some {fs : List ByteArray} {s : ByteArray} (h : hasS fs s = true) : ∃ j, findIx (.string s) (keysS fs) = some j ∧ (truesS fs)[j]? = some (.d (.raw (.bool true))) := by
 have h1 := findIx_keys s fs
 rw [h] at h1
 obtain ⟨j, hj⟩ := Option.isSome_iff_exists.1 h1
 refine ⟨j, hj, ?_⟩
 have := findIx_lt s fs j hj
 simp [truesS, this]
abbrev cs1St (x : Sr) (q : Nat) : St := ⟨[(1, .box 0 0), (14, .d (.sl (encS x.uses))), (15, .d (.raw (.int .i64 x.uses.length))), (16, .d (.raw (.int .i64 q)))], [(0, some (.cell 26 [.d (.sl (encS x.uses)), .d (.sl (encDs x.decls))]))], []⟩
abbrev cs2St (x : Sr) (q : Nat) : St := ⟨[(1, .box 0 0), (5, .mp 13000), (43, .d (.sl (encDs x.decls))), (44, .d (.raw (.int .i64 x.decls.length))), (45, .d (.raw (.int .i64 q)))], [(0, some (.cell 26 [.d (.sl (encS x.uses)), .d (.sl (encDs x.decls))])), (13000, some (.map none (keysS (ones (x.decls.take q))) (truesS (ones (x.decls.take q)))))], []⟩
set_option maxRecDepth 100000 in
set_option maxHeartbeats 16000000 in
theorem ssource_c (x : Sr) (hb : ∀ d ∈ x.decls, nodesE d.body ≤ 524288) : Con Tryz.prog 26 [avS x] (.d (.raw (.int .i64 (srcX sdeclX x)))) := by
 refine con_of Tryz.func26 rfl (by decide +kernel) rfl rfl (by simp [Tryz.ntmps26]) fun A hA => ?_
 rw [Tryz.ntmps26] at hA
 refine goC 400 ?_
 by_cases h1 : 20 < x.uses.length
 ·have g1 : decide ((20 : Int) < (x.uses.length : Int)) = true := decide_eq_true (by omega)
  have he : srcX sdeclX x = 4 := by unfold srcX; rw [if_pos h1]
  simp only [go_sem, hA, avS, encS_length, g1, he, Tryz.results26]
 have g1 : decide ((20 : Int) < (x.uses.length : Int)) = false := decide_eq_false (by omega)
 have hs0 : srcX sdeclX x = if ¬ firstN (useE x.uses) x.uses.length = 0 then firstN (useE x.uses) x.uses.length else if 100 < x.decls.length then 4 else firstN (declE sdeclX x.decls) x.decls.length := by unfold srcX; rw [if_neg h1]
 simp only [go_sem, hA, avS, encS_length, g1]
 refine satC_loop [1, 14, 15, 16] [0] [] (fun y σ => ∃ q : Nat, q ≤ x.uses.length ∧ y = x.uses.length - q ∧ firstN (useE x.uses) q = 0 ∧ σ = cs1St x q) x.uses.length ⟨0, by omega, by omega, rfl, by simp only [go_sem, cs1St]⟩ ?_
 rintro y σ ⟨q, hq, rfl, hf, rfl⟩
 refine goC 400 ?_
 by_cases hlt : q < x.uses.length
 ·have k1 : decide ((q : Int) < (x.uses.length : Int)) = true := decide_eq_true (by omega)
  have hc := sLabel_c x.uses[q]
  have hat := atB_get x.uses q hlt
  have hhit : ∀ e : Int, ¬ e = 0 → useE x.uses q = e → srcX sdeclX x = e := fun e h0 h => by
   have h2 := firstN_hit (n := x.uses.length) hf hlt (by rw [h]; exact h0)
   rw [hs0, h2, h, if_pos h0]
  simp only [go_sem, hA, cs1St, encS_length, k1, Int.toNat_natCast, encS_at x.uses q hlt]
  refine ⟨⟨by omega, by omega⟩, ?_⟩
  refine goCall 300 hc rfl (by simp only [go_sem]) (by simp only [go_sem, hA]) ?_
  cases hl : labelL x.uses[q].data.toList with
  | false =>
   have hr := hhit 6 (by decide) (by unfold useE; rw [hat, hl]; rfl)
   simp only [go_sem, hA, hr, Tryz.results26]
  | true =>
   have hu : useE x.uses q = if 0 < q ∧ ltS (atB x.uses (q - 1)) (atB x.uses q) = false then 10 else 0 := by unfold useE; rw [hat, hl]; rfl
   by_cases hq0 : 0 < q
   ·have k2 : decide ((0 : Int) < (q : Int)) = true := decide_eq_true (by omega)
    have hq1 : ((q : Int) - 1).toNat = q - 1 := by omega
    have hat1 := atB_get x.uses (q - 1) (by omega)
    have hin : inI64 ((q : Int) - 1) := by unfold inI64; omega
    have hw : IntKind.i64.wrap ((q : Int) - 1) = (q : Int) - 1 := wrapI64 hin
    cases hls : ltS x.uses[q - 1] x.uses[q] with
    | false =>
     have hls' : Op.bytesLess x.uses[q - 1].data.toList x.uses[q].data.toList = false := hls
     have hr := hhit 10 (by decide) (by rw [hu, hat, hat1, if_pos ⟨hq0, hls⟩])
     simp only [go_sem, hA, k2, encS_length, hq1, encS_at x.uses (q - 1) (by omega), hls', hr, Tryz.results26]
     exact ⟨hin, by omega, by omega⟩
    | true =>
     have hls' : Op.bytesLess x.uses[q - 1].data.toList x.uses[q].data.toList = true := hls
     have hz := firstN_step hf (by rw [hu, hat, hat1, hls, if_neg (by simp)])
     simp only [go_sem, hA, k2, encS_length, hq1, encS_at x.uses (q - 1) (by omega), hls']
     exact ⟨hin, ⟨by omega, by omega⟩, by unfold inI64; omega, x.uses.length - (q + 1), by omega, q + 1, by omega, rfl, hz, rfl⟩
   ·have k2 : decide ((0 : Int) < (q : Int)) = false := decide_eq_false (by omega)
    have hz := firstN_step hf (by rw [hu, if_neg (fun h => hq0 h.1)])
    simp only [go_sem, hA, k2, undef]
    exact ⟨by unfold inI64; omega, x.uses.length - (q + 1), by omega, q + 1, by omega, rfl, hz, rfl⟩
 have k1 : decide ((q : Int) < (x.uses.length : Int)) = false := decide_eq_false (by omega)
 obtain rfl : q = x.uses.length := by omega
 rw [hf, if_neg (fun h => h rfl)] at hs0
 by_cases h2 : 100 < x.decls.length
 ·have g2 : decide ((100 : Int) < (x.decls.length : Int)) = true := decide_eq_true (by omega)
  rw [if_pos h2] at hs0
  simp only [go_sem, hA, cs1St, encDs_length, k1, g2, hs0, Tryz.results26]
 have g2 : decide ((100 : Int) < (x.decls.length : Int)) = false := decide_eq_false (by omega)
 rw [if_neg h2] at hs0
 simp only [go_sem, hA, cs1St, encDs_length, k1, g2]
 refine satC_loop [1, 5, 43, 44, 45] [0, 13000] [] (fun y σ => ∃ q : Nat, q ≤ x.decls.length ∧ y = x.decls.length - q ∧ firstN (declE sdeclX x.decls) q = 0 ∧ σ = cs2St x q) x.decls.length ⟨0, by omega, by omega, rfl, by simp only [go_sem, cs2St]; rfl⟩ ?_
 rintro y σ ⟨q, hq, rfl, hf2, rfl⟩
 refine goC 400 ?_
 by_cases hlt : q < x.decls.length
 case neg =>
  have k1 : decide ((q : Int) < (x.decls.length : Int)) = false := decide_eq_false (by omega)
  obtain rfl : q = x.decls.length := by omega
  rw [hf2] at hs0
  simp only [go_sem, hA, cs2St, k1, hs0, Tryz.results26]
 have k1 : decide ((q : Int) < (x.decls.length : Int)) = true := decide_eq_true (by omega)
 have hat := atD_get x.decls q hlt
 have hlen : x.decls.length ≤ 100 := by omega
 obtain ⟨d, hd⟩ : ∃ d, x.decls[q] = d := ⟨_, rfl⟩
 rw [hd] at hat
 have hc := sdecl_c d (hb d (by rw [← hd]; exact List.getElem_mem hlt))
 have hhit : ∀ e : Int, ¬ e = 0 → declE sdeclX x.decls q = e → srcX sdeclX x = e := fun e h0 h => by
  have h2 := firstN_hit (n := x.decls.length) hf2 hlt (by rw [h]; exact h0)
  rw [hs0, h2, h]
 simp only [go_sem, hA, cs2St, encDs_length, k1, Int.toNat_natCast, encDs_at x.decls q hlt, hd, encD, mentL_rep]
 refine ⟨⟨by omega, by omega⟩, ?_⟩
 refine goCall 300 hc rfl (by simp only [go_sem, avD]) (by simp only [go_sem, hA]) ?_
 by_cases he : sdeclX d = 0
 case neg =>
  have k2 : (decide ¬ sdeclX d = 0) = true := decide_eq_true he
  have hr := hhit (sdeclX d) he (by unfold declE; rw [hat, if_pos he])
  simp only [go_sem, hA, k2, hr, Tryz.results26]
 have k2 : (decide ¬ sdeclX d = 0) = false := decide_eq_false (fun h => h he)
 have hde : declE sdeclX x.decls q = if misplaced x.decls q then 10 else if d.names.length = 1 ∧ hasS (ones (x.decls.take q)) (atB d.names 0) then 7 else 0 := by unfold declE; rw [hat, if_neg (fun h => h he)]
 have hq1 : ((q : Int) - 1).toNat = q - 1 := by omega
 have hin : inI64 ((q : Int) - 1) := by unfold inI64; omega
 have hw : IntKind.i64.wrap ((q : Int) - 1) = (q : Int) - 1 := wrapI64 hin
 cases hm : misplaced x.decls q with
 | true =>
  have hm' := hm
  simp only [misplaced, hat, Bool.and_eq_true, Bool.or_eq_true, decide_eq_true_eq] at hm'
  obtain ⟨⟨hq0, hid⟩, hor⟩ := hm'
  have hr := hhit 10 (by decide) (by rw [hde, hm, if_pos rfl])
  have k3 : (decide ¬ d.id = 0) = true := decide_eq_true hid
  have k4 : decide ((0 : Int) < (q : Int)) = true := decide_eq_true (by omega)
  have hat1 := atD_get x.decls (q - 1) (by omega)
  rw [hat1] at hor
  by_cases hp : x.decls[q - 1].id = 0
  ·have k5 : decide (x.decls[q - 1].id = 0) = true := decide_eq_true hp
   simp only [go_sem, hA, k2, k3, k4, encDs_length, hq1, encDs_at x.decls (q - 1) (by omega), encD, k5, undef, mixed, hr, Tryz.results26]
   exact ⟨hin, ⟨by omega, by omega⟩, by show chk _ _ _ = true; kernel_rfl⟩
  ·have k5 : decide (x.decls[q - 1].id = 0) = false := decide_eq_false hp
   have k6 : decide (d.id ≤ x.decls[q - 1].id) = true := decide_eq_true (by rcases hor with h | h; exact absurd h hp; exact h)
   simp only [go_sem, hA, k2, k3, k4, encDs_length, hq1, encDs_at x.decls (q - 1) (by omega), encD, k5, k6, mixed, hr, Tryz.results26]
   exact ⟨hin, ⟨by omega, by omega⟩, hin, ⟨by omega, by omega⟩, by show chk _ _ _ = true; kernel_rfl⟩
 | false =>
  rw [hm, if_neg (by decide)] at hde
  have hm' : d.id = 0 ∨ (¬ d.id = 0 ∧ ¬ 0 < q) ∨ (¬ d.id = 0 ∧ 0 < q ∧ ¬ (atD x.decls (q - 1)).id = 0 ∧ ¬ d.id ≤ (atD x.decls (q - 1)).id) := by
   by_cases e1 : d.id = 0
   ·exact .inl e1
   by_cases e2 : 0 < q
   ·refine .inr (.inr ⟨e1, e2, ?_⟩)
    simp only [misplaced, hat, decide_eq_true e2, decide_eq_true e1, Bool.true_and, Bool.or_eq_false_iff, decide_eq_false_iff_not] at hm
    exact hm
   ·exact .inr (.inl ⟨e1, e2⟩)
  rcases hm' with e1 | ⟨e1, e2⟩ | ⟨e1, e2, e3, e4⟩
  case' inl =>
   have k3 : (decide ¬ d.id = 0) = false := decide_eq_false (fun h => h e1)
   simp only [go_sem, hA, k2, k3, undef, mixed, encS_length]
  case' inr.inl =>
   have k3 : (decide ¬ d.id = 0) = true := decide_eq_true e1
   have k4 : decide ((0 : Int) < (q : Int)) = false := decide_eq_false (by omega)
   simp only [go_sem, hA, k2, k3, k4, undef, mixed, encS_length]
  case' inr.inr =>
   have k3 : (decide ¬ d.id = 0) = true := decide_eq_true e1
   have k4 : decide ((0 : Int) < (q : Int)) = true := decide_eq_true (by omega)
   have hat1 := atD_get x.decls (q - 1) (by omega)
   rw [hat1] at e3 e4
   have k5 : decide (x.decls[q - 1].id = 0) = false := decide_eq_false e3
   have k6 : decide (d.id ≤ x.decls[q - 1].id) = false := decide_eq_false e4
   simp only [go_sem, hA, k2, k3, k4, encDs_length, hq1, encDs_at x.decls (q - 1) (by omega), encD, k5, k6, mixed, encS_length]
   refine ⟨hin, ⟨by omega, by omega⟩, hin, ⟨by omega, by omega⟩, ?_⟩
  all_goals
   refine ⟨by show chk _ _ _ = true; kernel_rfl, ?_⟩
   by_cases hl : d.names.length = 1
   ·have k7 : decide ((d.names.length : Int) = 1) = true := decide_eq_true (by omega)
    cases hh : hasS (ones (x.decls.take q)) (atB d.names 0) with
    | true =>
     obtain ⟨j, hj1, hj2⟩ := find_some hh
     have hr := hhit 7 (by decide) (by rw [hde, if_pos ⟨hl, hh⟩])
     simp only [go_sem, hA, k7, encS_length, encS_atB d.names 0 (by omega), hj1, hj2, hr, Tryz.results26]
     exact ⟨by omega, keysS_fit _⟩
    | false =>
     have hj := find_none hh
     have hz := firstN_step hf2 (by rw [hde, if_neg (fun h => by rw [hh] at h; exact Bool.noConfusion h.2)])
     have hone := ones_succ x.decls q hlt
     rw [hat, if_pos hl] at hone
     simp only [go_sem, hA, k7, encS_length, encS_atB d.names 0 (by omega), hj, mentL_rep]
     refine ⟨by omega, keysS_fit _, by omega, keysS_fit _, by unfold inI64; omega, x.decls.length - (q + 1), by omega, q + 1, by omega, rfl, hz, ?_⟩
     rw [hone, keys_snoc, trues_snoc]
     rfl
   ·have k7 : decide ((d.names.length : Int) = 1) = false := decide_eq_false (by omega)
    have hz := firstN_step hf2 (by rw [hde, if_neg (fun h => hl h.1)])
    have hone := ones_succ x.decls q hlt
    rw [hat, if_neg hl, List.append_nil] at hone
    simp only [go_sem, hA, k7]
    exact ⟨by unfold inI64; omega, x.decls.length - (q + 1), by omega, q + 1, by omega, rfl, hz, by rw [hone]; rfl⟩
end
section
open Go Go.RowKit
section
variable {P : Program} {A : Base P} {σ : St} {g : Gh} {a : Act} {w : World}
theorem goMid (n : Nat) (ts bs ks : List Nat) (I : St → Prop) {c rest : Code} {s : List Itm} {Q : Exit → St → Prop} (h1 : go P A n (.code c) (.inv (fun σ' => I (σ'.keep ts bs ks)) :: s) σ Q) (h2 : ∀ σ', I σ' → SatC P A rest σ' (stk P A s Q)) : SatC P A (.seq c rest) σ (stk P A s Q) := by
 refine satC_seq ((go_ok n _ _ _ _ h1).mono fun e σ' hq => ?_)
 cases e with
 | normal => exact satC_keep ts bs ks (h2 _ hq)
 | _ => exact hq
end
variable {A : Base Tryz.prog} {σ : St} {g : Gh} {a : Act} {w : World}
end
section
def nextL (l : List UInt8) : Int × Nat :=
 if letterB (l.head?.getD 0) then (if hasSlash (l.take (runL innerB l)) then 2 else 1, runL innerB l)
 else if digitB (l.head?.getD 0) || ((l.head?.getD 0).toNat == 45 && decide (1 < l.length) && digitB (l.tail.head?.getD 0)) then (3, 1 + runL innerB l.tail)
 else (4, signL l)
def okNext (l : List UInt8) : Bool := checkL (nextL l).1 (l.take (nextL l).2) 0 == 0
theorem prefix_two {l : List UInt8} {a b : UInt8} (h : Lib.hasPrefix l [a, b] = true) : 2 ≤ l.length := by
 unfold Lib.hasPrefix at h
 have := (List.isPrefixOf_iff_prefix.1 h).length_le
 simpa using this
theorem signL_le (l : List UInt8) : signL l ≤ l.length := by
 unfold signL
 split
 ·rename_i h
  simp only [Bool.or_eq_true] at h
  rcases h with h | h | h <;> exact prefix_two h
 ·cases l with
  | nil => simp
  | cons c r => simp only [List.length_cons]; split <;> omega
end
section
structure LTok where
 kind : Int
 text : List UInt8
 pos : Int
def advL (r : List UInt8) : Nat := (nextL r).2 + skipL (r.drop (nextL r).2)
def tokL (r : List UInt8) (p : Nat) : LTok := ⟨(nextL r).1, r.take (nextL r).2, p⟩
def scanT : Nat → List UInt8 → Nat → List LTok → List LTok × Option Nat
 | 0, _, _, acc => (acc, none)
 | f + 1, r, p, acc => if r.isEmpty then (acc, none) else if okNext r then scanT f (r.drop (advL r)) (p + advL r) (acc ++ [tokL r p]) else ([], some p)
def scanAll (l : List UInt8) : List LTok × Option Nat := scanT (l.length + 1) (l.drop (skipL l)) (skipL l) []
theorem nextL_le (l : List UInt8) (h : 0 < l.length) : (nextL l).2 ≤ l.length := by
 unfold nextL
 have h1 := runL_le innerB l
 have h2 := runL_le innerB l.tail
 have h3 := signL_le l
 simp only [List.length_tail] at h2
 repeat' split
 all_goals first | exact h1 | exact h3 | (simp only []; omega)
theorem textL_nil (k : Int) : textL k [] = false := by
 unfold textL; repeat' split
 all_goals rfl
theorem checkL_nil (k : Int) : (checkL k [] 0 == 0) = false := by
 unfold checkL; rw [textL_nil]; split <;> rfl
theorem okNext_pos {l : List UInt8} (h : okNext l = true) : 0 < (nextL l).2 := by
 rcases Nat.eq_zero_or_pos (nextL l).2 with h0 | h0
 ·unfold okNext at h; rw [h0, List.take_zero, checkL_nil] at h; cases h
 ·exact h0
theorem advL_le (r : List UInt8) (h : 0 < r.length) : advL r ≤ r.length := by
 have h1 := nextL_le r h
 have h2 := skipL_le (r.drop (nextL r).2)
 simp only [List.length_drop] at h2
 unfold advL; omega
theorem scanT_end {f : Nat} {r : List UInt8} {p : Nat} {acc : List LTok} (h : r.length = 0) : scanT f r p acc = (acc, none) := by
 obtain rfl := List.eq_nil_of_length_eq_zero h
 cases f <;> rfl
theorem scanT_step {f : Nat} {r : List UInt8} {p : Nat} {acc : List LTok} (h : 0 < r.length) (ho : okNext r = true) : scanT (f + 1) r p acc = scanT f (r.drop (advL r)) (p + advL r) (acc ++ [tokL r p]) := by
 rw [scanT, if_neg (by cases r <;> simp_all), if_pos ho]
theorem scanT_err {f : Nat} {r : List UInt8} {p : Nat} {acc : List LTok} (h : 0 < r.length) (ho : okNext r = false) : scanT (f + 1) r p acc = ([], some p) := by
 rw [scanT, if_neg (by cases r <;> simp_all), if_neg (by simp [ho])]
end
section
end
section
def kt (t : LTok) : Int × List UInt8 := (t.kind, t.text)
end
section
section
open Go Go.RowKit
def encT (t : LTok) : List D := [.raw (.int .i64 t.kind), .raw (.string ⟨t.text.toArray⟩), .raw (.int .i64 t.pos)]
def encTs (l : List LTok) : List (List D) := l.map encT
theorem encTs_length (l : List LTok) : (encTs l).length = l.length := by simp [encTs]
theorem encTs_at (l : List LTok) (i : Nat) (h : i < l.length) : (encTs l).getD i [] = encT l[i] := by
 simp [encTs, List.getD_eq_getElem?_getD, h]
theorem encTs_row (l : List LTok) : ∀ r ∈ encTs l, r.length = 3 := fun r h => by
 obtain ⟨t, _, rfl⟩ := List.mem_map.1 h; rfl
theorem encTs_fit (l : List LTok) : rowsFit 3 (encTs l) := by
 intro r hr
 obtain ⟨t, _, rfl⟩ := List.mem_map.1 hr
 exact ⟨rfl, fun x hx => by simp [encT] at hx; rcases hx with rfl | rfl | rfl <;> rfl⟩
end
end
end Go.Proofs.YtnnolijagpakiaaGreatDoor
