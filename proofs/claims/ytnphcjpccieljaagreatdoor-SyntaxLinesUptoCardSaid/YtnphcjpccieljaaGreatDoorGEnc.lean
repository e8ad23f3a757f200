/- Expressions as trees of cells. Expressions as values. Expressions in memory and expressions as trees of cells. -/
import Derived.Test.YtnphcjpccieljaaGreatDoorGEx
import Derived.Test.YtnphcjpccieljaaGreatDoorGTe
namespace Go.Proofs.YtnphcjpccieljaaGreatDoor
open Go Go.RowKit

mutual
def encE : Ex → List D
  | .mk k n m i d s => [.raw (.int .i64 k), .raw (.string n), .raw (.string m), .raw (.int .i64 i), .raw (.int .i64 d), .sl (encL s)]
def encL : List Ex → List (List D)
  | [] => []
  | e :: es => encE e :: encL es
end
theorem encE_eq (t : Ex) : encE t = [.raw (.int .i64 t.kind), .raw (.string t.name), .raw (.string t.more), .raw (.int .i64 t.int), .raw (.int .i64 t.den), .sl (encL t.sub)] := by cases t; rfl
theorem encL_length : ∀ l : List Ex, (encL l).length = l.length
  | [] => rfl
  | e :: es => by rw [encL]; simp [encL_length es]
theorem encE_length (t : Ex) : (encE t).length = 6 := by cases t; rfl
theorem encL_map : ∀ l : List Ex, encL l = l.map encE
  | [] => rfl
  | e :: es => by rw [encL, encL_map es]; rfl
theorem encL_getD (l : List Ex) (i : Nat) (h : i < l.length) : (encL l).getD i [] = encE l[i] := by
  rw [encL_map]; simp [List.getD_eq_getElem?_getD, h]
theorem encL_at (l : List Ex) (i : Nat) (h : i < l.length) : (encL l).getD i [] = [.raw (.int .i64 l[i].kind), .raw (.string l[i].name), .raw (.string l[i].more), .raw (.int .i64 l[i].int), .raw (.int .i64 l[i].den), .sl (encL l[i].sub)] := by
  rw [encL_getD l i h, encE_eq]
theorem encL_fit (l : List Ex) : rowsFit 6 (encL l) := by
  intro r hr
  rw [encL_map] at hr
  obtain ⟨t, _, rfl⟩ := List.mem_map.1 hr
  refine ⟨encE_length t, fun x hx => ?_⟩
  rw [encE_eq] at hx
  simp only [List.mem_cons, List.not_mem_nil, or_false] at hx
  rcases hx with rfl | rfl | rfl | rfl | rfl | rfl <;> rfl
theorem encL_set (l : List Ex) (i : Nat) (t : Ex) : (encL l).set i (encE t) = encL (l.set i t) := by
  rw [encL_map, encL_map, List.map_set]
theorem encL_append (a b : List Ex) : encL a ++ encL b = encL (a ++ b) := by simp [encL_map]
def avE (t : Ex) : AV := .agg ((encE t).map .d)
theorem avE_eq (t : Ex) : avE t = .agg [.d (.raw (.int .i64 t.kind)), .d (.raw (.string t.name)), .d (.raw (.string t.more)), .d (.raw (.int .i64 t.int)), .d (.raw (.int .i64 t.den)), .d (.sl (encL t.sub))] := by
  rw [avE, encE_eq]; rfl
end Go.Proofs.YtnphcjpccieljaaGreatDoor

namespace Go.Proofs.YtnphcjpccieljaaGreatDoor
open Go.RowKit

/-- an expression's value -/
structure XV where
  k : Int
  n : ByteArray
  m : ByteArray
  i : Int
  d : Int
  p : Option Addr
  q : Nat
  c : Nat
abbrev XV.arr (x : XV) : Array Value := #[.int .i64 x.k, .string x.n, .string x.m, .int .i64 x.i, .int .i64 x.d, .slice x.p x.q x.c]
/-- the value reads as the expression -/
def XAt (w : World) (t : Ex) (x : XV) : Prop := ExAt w w.heap.size t (.agg x.arr)
theorem XAt.kept {w w' : World} {t : Ex} {x : XV} (h : XAt w t x) (hb : Below w.heap.size w w') : XAt w' t x := exAt_below h hb hb.size
theorem xAt_sub {w : World} {t : Ex} {x : XV} (h : XAt w t x) : x = ⟨t.kind, t.name, t.more, t.int, t.den, x.p, t.sub.length, x.c⟩ ∧ SubAt w w.heap.size t.sub (.slice x.p t.sub.length x.c) := by
  obtain ⟨sv, he, hs⟩ := exAt_iff.1 h
  obtain ⟨k, n, m, i, d, p, q, c⟩ := x
  obtain ⟨p', c', rfl, hc, hr⟩ := id hs
  simp only [XV.arr, Value.agg.injEq, Array.mk.injEq, List.cons.injEq, and_true, Value.int.injEq, Value.string.injEq, Value.slice.injEq, true_and] at he
  obtain ⟨rfl, rfl, rfl, rfl, rfl, rfl, rfl, rfl⟩ := he
  exact ⟨rfl, hs⟩
theorem xAt_of_ex {w : World} {t : Ex} {v : Value} (h : ExAt w w.heap.size t v) : ∃ x : XV, v = .agg x.arr ∧ XAt w t x := by
  obtain ⟨sv, rfl, hs⟩ := exAt_iff.1 h
  obtain ⟨p', c', rfl, hc, hr⟩ := id hs
  exact ⟨⟨t.kind, t.name, t.more, t.int, t.den, p', t.sub.length, c'⟩, rfl, h⟩
end Go.Proofs.YtnphcjpccieljaaGreatDoor

namespace Go.Proofs.YtnphcjpccieljaaGreatDoor
open Go Go.RowKit
theorem rowAt_mk {w : World} {B b : Nat} : ∀ (l : List Ex) (off : Nat), (∀ k (h : k < l.length), NodeAt w B b (off + k * 6) l[k]) → RowAt w B b off l
  | [], off, _ => by simp [RowAt]
  | e :: es, off, h => by
    rw [rowAt_cons]
    refine ⟨by have h0 := h 0 (by simp); rw [Nat.zero_mul, Nat.add_zero] at h0; exact h0, rowAt_mk es (off + 6) fun k hk => ?_⟩
    have := h (k + 1) (by simpa using hk)
    rw [show off + (k + 1) * 6 = off + 6 + k * 6 by omega] at this
    exact this
theorem reads_sub {w : World} {F : Nat → Nat → Prop} (hF : ∀ b o, F b o → b < w.heap.size) (N : Nat) : ∀ (sub : List Ex) (v : Value), nodesL sub < N → Reads w F (.sl (encL sub)) v → SubAt w w.heap.size sub v := by
  induction N with
  | zero => intro sub v h; omega
  | succ N ih =>
    intro sub v hN h
    obtain ⟨p, cap, rfl, hcap⟩ := h.slice
    rw [encL_length] at hcap h ⊢
    refine ⟨p, cap, rfl, hcap, fun hpos => ?_⟩
    have hlen := encL_length sub
    have hrow : ∀ k (hk : k < sub.length), (encL sub)[k]'(by omega) = encE sub[k] := fun k hk => by
      simp only [encL_map, List.getElem_map]
    obtain ⟨b, off, hp, h0⟩ := h.row 0 (by omega) (st := 6) (by rw [hrow 0 hpos]; exact encE_length _)
    have hb : b < w.heap.size := by
      obtain ⟨h1, _⟩ := h0 0 (by rw [hrow 0 hpos, encE_length]; omega)
      exact hF _ _ h1
    refine ⟨b, off, hp, hb, rowAt_mk sub off fun k hk => ?_⟩
    obtain ⟨b', off', hp', hk0⟩ := h.row k (by omega) (st := 6) (by rw [hrow k hk]; exact encE_length _)
    rw [hp] at hp'
    simp only [Option.some.injEq, Addr.mk.injEq, and_true] at hp'
    obtain ⟨rfl, rfl⟩ := hp'
    have hn := nodesL_get sub k hk
    rw [nodesE_eq] at hn
    have cell : ∀ j (hj : j < 6), ∃ u, w.cell? ⟨b, off + k * 6 + j, none⟩ = some u ∧ Reads w F ((encE sub[k])[j]'(by rw [encE_length]; exact hj)) u := fun j hj => by
      obtain ⟨_, u, h1, h2⟩ := hk0 j (by rw [hrow k hk, encE_length]; exact hj)
      refine ⟨u, h1, ?_⟩
      have e : ((encL sub)[k]'(by omega))[j]'(by rw [hrow k hk, encE_length]; exact hj) = (encE sub[k])[j]'(by rw [encE_length]; exact hj) := by simp only [hrow k hk]
      rw [← e]; exact h2
    have enc : ∀ j (hj : j < 6), (encE sub[k])[j]'(by rw [encE_length]; exact hj) = [D.raw (.int .i64 sub[k].kind), .raw (.string sub[k].name), .raw (.string sub[k].more), .raw (.int .i64 sub[k].int), .raw (.int .i64 sub[k].den), .sl (encL sub[k].sub)][j] := fun j hj => by
      simp only [encE_eq]
    obtain ⟨u0, a0, b0⟩ := cell 0 (by omega); rw [enc 0 (by omega)] at b0
    obtain ⟨u1, a1, b1⟩ := cell 1 (by omega); rw [enc 1 (by omega)] at b1
    obtain ⟨u2, a2, b2⟩ := cell 2 (by omega); rw [enc 2 (by omega)] at b2
    obtain ⟨u3, a3, b3⟩ := cell 3 (by omega); rw [enc 3 (by omega)] at b3
    obtain ⟨u4, a4, b4⟩ := cell 4 (by omega); rw [enc 4 (by omega)] at b4
    obtain ⟨u5, a5, b5⟩ := cell 5 (by omega); rw [enc 5 (by omega)] at b5
    obtain rfl := b0.raw_eq
    obtain rfl := b1.raw_eq
    obtain rfl := b2.raw_eq
    obtain rfl := b3.raw_eq
    obtain rfl := b4.raw_eq
    exact ⟨u5, a0, a1, a2, a3, a4, a5, ih _ _ (by omega) b5⟩
theorem sub_reads {w : World} {B : Nat} (N : Nat) : ∀ (sub : List Ex) (v : Value), nodesL sub < N → SubAt w B sub v → Reads w (fun b _ => b < B) (.sl (encL sub)) v := by
  induction N with
  | zero => intro sub v h; omega
  | succ N ih =>
    intro sub v hN h
    obtain ⟨p, cap, rfl, hcap, hat⟩ := subAt_open h
    have hlen := encL_length sub
    rw [← hlen]
    by_cases hpos : 0 < sub.length
    · obtain ⟨b, off, rfl, hb, _⟩ := hat 0 hpos
      refine Reads.mk (st := 6) (by omega) (fun i hi => by simp only [encL_map, List.getElem_map, encE_length]) fun i hi j hj => ⟨hb, ?_⟩
      have hi' : i < sub.length := by omega
      have hrow : (encL sub)[i] = encE sub[i] := by simp only [encL_map, List.getElem_map]
      obtain ⟨b', off', hp, _, sv, c0, c1, c2, c3, c4, c5, hs⟩ := hat i hi'
      simp only [Option.some.injEq, Addr.mk.injEq, and_true] at hp
      obtain ⟨rfl, rfl⟩ := hp
      have hn := nodesL_get sub i hi'
      rw [nodesE_eq] at hn
      have hj6 : j < 6 := by rw [hrow, encE_length] at hj; exact hj
      have e : (encL sub)[i][j] = [D.raw (.int .i64 sub[i].kind), .raw (.string sub[i].name), .raw (.string sub[i].more), .raw (.int .i64 sub[i].int), .raw (.int .i64 sub[i].den), .sl (encL sub[i].sub)][j] := by
        simp only [hrow, encE_eq]
      rw [e]
      match j, hj6 with
      | 0, _ => exact ⟨_, c0, .raw _⟩
      | 1, _ => exact ⟨_, c1, .raw _⟩
      | 2, _ => exact ⟨_, c2, .raw _⟩
      | 3, _ => exact ⟨_, c3, .raw _⟩
      | 4, _ => exact ⟨_, c4, .raw _⟩
      | 5, _ => exact ⟨_, c5, ih _ _ (by omega) hs⟩
    · have e : sub = [] := List.eq_nil_of_length_eq_zero (by omega)
      subst e
      exact .nil _ _
theorem avE_xAt {w : World} {F : Nat → Nat → Prop} {t : Ex} {v : Value} (hF : ∀ b o, F b o → b < w.heap.size) (h : HasC w F (avE t) v) : ∃ x : XV, v = .agg x.arr ∧ XAt w t x := by
  rw [avE_eq] at h
  unfold HasC at h
  generalize hcs : [AV.d (.raw (.int .i64 t.kind)), .d (.raw (.string t.name)), .d (.raw (.string t.more)), .d (.raw (.int .i64 t.int)), .d (.raw (.int .i64 t.den)), .d (.sl (encL t.sub))] = cs at h
  cases h with
  | agg _ vs hl hh =>
    subst hcs
    match vs, hl with
    | [v0, v1, v2, v3, v4, v5], _ =>
      have g0 := hh 0 (by simp) (by simp)
      have g1 := hh 1 (by simp) (by simp)
      have g2 := hh 2 (by simp) (by simp)
      have g3 := hh 3 (by simp) (by simp)
      have g4 := hh 4 (by simp) (by simp)
      have g5 := hh 5 (by simp) (by simp)
      obtain rfl : v0 = _ := g0.raw_eq
      obtain rfl : v1 = _ := g1.raw_eq
      obtain rfl : v2 = _ := g2.raw_eq
      obtain rfl : v3 = _ := g3.raw_eq
      obtain rfl : v4 = _ := g4.raw_eq
      have h5 : Reads w F (.sl (encL t.sub)) v5 := by
        simp only [List.getElem_cons_succ, List.getElem_cons_zero] at g5
        cases g5 with
        | d h => exact h
      have hs := reads_sub hF (nodesL t.sub + 1) t.sub v5 (by omega) h5
      obtain ⟨p, cap, rfl, hcap, hat⟩ := subAt_open hs
      exact ⟨⟨t.kind, t.name, t.more, t.int, t.den, p, t.sub.length, cap⟩, rfl, by
        unfold XAt
        rw [exAt_iff]
        exact ⟨_, rfl, hs⟩⟩
theorem xAt_avE {w : World} {t : Ex} {x : XV} (h : XAt w t x) : HasC w (fun b _ => b < w.heap.size) (avE t) (.agg x.arr) := by
  obtain ⟨hx, hs⟩ := xAt_sub h
  rw [hx, avE_eq]
  have hr := sub_reads (nodesL t.sub + 1) t.sub _ (by omega) hs
  refine .agg _ [.int .i64 t.kind, .string t.name, .string t.more, .int .i64 t.int, .int .i64 t.den, .slice x.p t.sub.length x.c] rfl fun i hi hv => ?_
  match i, hi with
  | 0, _ => exact .d (.raw _)
  | 1, _ => exact .d (.raw _)
  | 2, _ => exact .d (.raw _)
  | 3, _ => exact .d (.raw _)
  | 4, _ => exact .d (.raw _)
  | 5, _ => exact .d hr
/-- a function of an expression that answers with one value -/
theorem con_e1 {P : Program} {f : FuncId} {t : Ex} {r : Value} (he : Enters P f) (h : ∀ (x : XV) (w : World), XAt w t x → Calls P f #[.agg x.arr] w fun e w' => e = .returned r ∧ Below w.heap.size w w') : Con P f [avE t] (.d (.raw r)) := by
  refine ⟨he, rfl, fun F w vs hF _ hl hv => ?_⟩
  match vs, hl with
  | [v], _ =>
    obtain ⟨x, rfl, hx⟩ := avE_xAt hF (hv 0 (by simp) (by simp))
    exact (h x w hx).mono fun e w' h' => ⟨r, h'.1, .d (.raw _), h'.2⟩
theorem con_e2 {P : Program} {f : FuncId} {t u : Ex} {r : Value} (he : Enters P f) (h : ∀ (x y : XV) (w : World), XAt w t x → XAt w u y → Calls P f #[.agg x.arr, .agg y.arr] w fun e w' => e = .returned r ∧ Below w.heap.size w w') : Con P f [avE t, avE u] (.d (.raw r)) := by
  refine ⟨he, rfl, fun F w vs hF _ hl hv => ?_⟩
  match vs, hl with
  | [v, v'], _ =>
    obtain ⟨x, rfl, hx⟩ := avE_xAt hF (hv 0 (by simp) (by simp))
    obtain ⟨y, rfl, hy⟩ := avE_xAt hF (hv 1 (by simp) (by simp))
    exact (h x y w hx hy).mono fun e w' h' => ⟨r, h'.1, .d (.raw _), h'.2⟩
theorem con_e0 {P : Program} {f : FuncId} {r : Value} (he : Enters P f) (h : ∀ (w : World), Calls P f #[] w fun e w' => e = .returned r ∧ Below w.heap.size w w') : Con P f [] (.d (.raw r)) := by
  refine ⟨he, rfl, fun F w vs hF _ hl hv => ?_⟩
  match vs, hl with
  | [], _ => exact (h w).mono fun e w' h' => ⟨r, h'.1, .d (.raw _), h'.2⟩
theorem con_l1 {P : Program} {f : FuncId} {l : List Ex} {r : Value} (he : Enters P f) (h : ∀ (v : Value) (w : World), SubAt w w.heap.size l v → Calls P f #[v] w fun e w' => e = .returned r ∧ Below w.heap.size w w') : Con P f [.d (.sl (encL l))] (.d (.raw r)) := by
  refine ⟨he, rfl, fun F w vs hF _ hl hv => ?_⟩
  match vs, hl with
  | [v], _ =>
    have h0 := hv 0 (by simp) (by simp)
    simp only [List.getElem_cons_zero] at h0
    have hr : Reads w F (.sl (encL l)) v := by
      unfold HasC at h0
      cases h0 with
      | d h => exact h
    exact (h v w (reads_sub hF (nodesL l + 1) l v (by omega) hr)).mono fun e w' h' => ⟨r, h'.1, .d (.raw _), h'.2⟩
end Go.Proofs.YtnphcjpccieljaaGreatDoor
