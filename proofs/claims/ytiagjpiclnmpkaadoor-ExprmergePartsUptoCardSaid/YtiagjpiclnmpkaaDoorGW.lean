/- Six cells stored into a row. A row of expressions that grows by append. -/
import Derived.Test.YtiagjpiclnmpkaaDoorGEx
import Derived.Test.YtiagjpiclnmpkaaDoorExT
import Derived.Deep.AppendLies
namespace Go.Proofs.YtiagjpiclnmpkaaDoor
open Go.RowKit

theorem setCell_row {A : World} {g o : Nat} {cur : Array Value} {T : TypeId} (c : Value) (h : A.heap[g]? = some (.cells cur T (0, 0))) : (A.setCell ⟨g, o, none⟩ c).heap[g]? = some (.cells (cur.setIfInBounds o c) T (0, 0)) := by
  have hlt := (Array.getElem?_eq_some_iff.1 h).1
  have hb := (Array.getElem?_eq_some_iff.1 h).2
  simp [World.setCell, Array.getElem_modify, hlt, hb]
theorem row_cell {A : World} {g x : Nat} {cur : Array Value} {T : TypeId} {f : Nat × Nat} (h : A.heap[g]? = some (.cells cur T f)) : A.cell? ⟨g, x, none⟩ = cur[x]? := by simp [World.cell?, h]
/-- what six stores into a row leave -/
structure Put6 (A : World) (g o N : Nat) (T : TypeId) (c0 c1 c2 c3 c4 c5 : Value) (B : World) : Prop where
  row : ∃ cur, B.heap[g]? = some (.cells cur T (0, 0)) ∧ cur.size = N
  k0 : B.cell? ⟨g, o, none⟩ = some c0
  k1 : B.cell? ⟨g, o + 1, none⟩ = some c1
  k2 : B.cell? ⟨g, o + 2, none⟩ = some c2
  k3 : B.cell? ⟨g, o + 3, none⟩ = some c3
  k4 : B.cell? ⟨g, o + 4, none⟩ = some c4
  k5 : B.cell? ⟨g, o + 5, none⟩ = some c5
  far : ∀ x, x < o ∨ o + 6 ≤ x → B.cell? ⟨g, x, none⟩ = A.cell? ⟨g, x, none⟩
  other : ∀ b, b ≠ g → B.heap[b]? = A.heap[b]?
  size : B.heap.size = A.heap.size
  below : ∀ (b : Nat) (w0 : World), b ≤ g → Below b w0 A → Below b w0 B
theorem put6 (A : World) (g o N : Nat) (T : TypeId) (c0 c1 c2 c3 c4 c5 : Value) (h : ∃ cur, A.heap[g]? = some (.cells cur T (0, 0)) ∧ cur.size = N) (ho : o + 6 ≤ N) :
    Put6 A g o N T c0 c1 c2 c3 c4 c5 ((((((A.setCell ⟨g, o, none⟩ c0).setCell ⟨g, o + 1, none⟩ c1).setCell ⟨g, o + 2, none⟩ c2).setCell ⟨g, o + 3, none⟩ c3).setCell ⟨g, o + 4, none⟩ c4).setCell ⟨g, o + 5, none⟩ c5) := by
  obtain ⟨cur, hc, rfl⟩ := h
  have hr := setCell_row (o := o + 5) c5 (setCell_row (o := o + 4) c4 (setCell_row (o := o + 3) c3 (setCell_row (o := o + 2) c2 (setCell_row (o := o + 1) c1 (setCell_row (o := o) c0 hc)))))
  refine ⟨⟨_, hr, by simp⟩, ?_, ?_, ?_, ?_, ?_, ?_, fun x hx => ?_, fun b hb => ?_, by simp [World.setCell], fun b w0 hbg hb => ?_⟩
  · rw [row_cell hr]; simp [Array.getElem?_setIfInBounds]; omega
  · rw [row_cell hr]; simp [Array.getElem?_setIfInBounds]; omega
  · rw [row_cell hr]; simp [Array.getElem?_setIfInBounds]; omega
  · rw [row_cell hr]; simp [Array.getElem?_setIfInBounds]; omega
  · rw [row_cell hr]; simp [Array.getElem?_setIfInBounds]; omega
  · rw [row_cell hr]; simp [Array.getElem?_setIfInBounds]; omega
  · rw [row_cell hr, row_cell hc]
    simp only [Array.getElem?_setIfInBounds]
    rw [if_neg (by omega), if_neg (by omega), if_neg (by omega), if_neg (by omega), if_neg (by omega), if_neg (by omega)]
  · exact (Below.heap_setCell _ _ _ _ hb).trans ((Below.heap_setCell _ _ _ _ hb).trans ((Below.heap_setCell _ _ _ _ hb).trans ((Below.heap_setCell _ _ _ _ hb).trans ((Below.heap_setCell _ _ _ _ hb).trans (Below.heap_setCell _ _ _ _ hb)))))
  · exact (((((hb.setCell (p := ⟨g, o, none⟩) hbg _).setCell (p := ⟨g, o + 1, none⟩) hbg _).setCell (p := ⟨g, o + 2, none⟩) hbg _).setCell (p := ⟨g, o + 3, none⟩) hbg _).setCell (p := ⟨g, o + 4, none⟩) hbg _).setCell (p := ⟨g, o + 5, none⟩) hbg _
/-- a row that is filled element by element: the first j elements are there; their parts lie in named blocks or behind the row -/
structure Fill (P : Nat → Prop) (g N : Nat) (ts : List Ex) (j : Nat) (W : World) : Prop where
  row : ∃ cur, W.heap[g]? = some (.cells cur 24 (0, 0)) ∧ cur.size = N * 6
  node : ∀ k (_ : k < j) (h' : k < ts.length), NodeP W (fun b => P b ∨ (g < b ∧ b < W.heap.size)) g (k * 6) ts[k]
theorem fill_cells {P : Nat → Prop} {g N : Nat} {ts : List Ex} {j : Nat} {W : World} (h : Fill P g N ts j W) (hj : j < N) : (∃ c0 c1 c2 c3 c4 c5, W.cell? ⟨g, j * 6, none⟩ = some c0 ∧ W.cell? ⟨g, j * 6 + 1, none⟩ = some c1 ∧ W.cell? ⟨g, j * 6 + 2, none⟩ = some c2 ∧ W.cell? ⟨g, j * 6 + 3, none⟩ = some c3 ∧ W.cell? ⟨g, j * 6 + 4, none⟩ = some c4 ∧ W.cell? ⟨g, j * 6 + 5, none⟩ = some c5) ∧
    W.frozen? ⟨g, j * 6, none⟩ = false ∧ W.frozen? ⟨g, j * 6 + 1, none⟩ = false ∧ W.frozen? ⟨g, j * 6 + 2, none⟩ = false ∧ W.frozen? ⟨g, j * 6 + 3, none⟩ = false ∧ W.frozen? ⟨g, j * 6 + 4, none⟩ = false ∧ W.frozen? ⟨g, j * 6 + 5, none⟩ = false := by
  obtain ⟨cur, hc, hs⟩ := h.row
  refine ⟨⟨cur[j * 6]'(by omega), cur[j * 6 + 1]'(by omega), cur[j * 6 + 2]'(by omega), cur[j * 6 + 3]'(by omega), cur[j * 6 + 4]'(by omega), cur[j * 6 + 5]'(by omega), ?_, ?_, ?_, ?_, ?_, ?_⟩, ?_⟩
  · rw [row_cell hc]; exact Array.getElem?_eq_getElem _
  · rw [row_cell hc]; exact Array.getElem?_eq_getElem _
  · rw [row_cell hc]; exact Array.getElem?_eq_getElem _
  · rw [row_cell hc]; exact Array.getElem?_eq_getElem _
  · rw [row_cell hc]; exact Array.getElem?_eq_getElem _
  · rw [row_cell hc]; exact Array.getElem?_eq_getElem _
  · simp [World.frozen?, hc]
/-- nothing that lay has turned -/
theorem Fill.kept {P : Nat → Prop} {g N : Nat} {ts : List Ex} {j : Nat} {A B : World} (h : Fill P g N ts j A) (hb : Below A.heap.size A B) (hP : ∀ b, P b → b < A.heap.size) (hg : g < A.heap.size) : Fill P g N ts j B := by
  obtain ⟨cur, hc, hs⟩ := h.row
  refine ⟨⟨cur, (hb.block g hg).trans hc, hs⟩, fun k hk h' => nodeP_stay (h.node k hk h') (fun b hb' => ?_) (stay_below hb (fun b hb' => ?_)) (fun i v hv _ => (hb.cell (p := ⟨g, _, none⟩) hg).trans hv)⟩
  · rcases hb' with h1 | h1
    · exact .inl h1
    · exact .inr ⟨h1.1, by have := hb.size; omega⟩
  · rcases hb' with h1 | h1
    · exact hP b h1
    · exact h1.2
/-- one element more -/
theorem Fill.push {P : Nat → Prop} {g N : Nat} {ts : List Ex} {j : Nat} {A B : World} {k : Int} {nm mr : ByteArray} {it d : Int} {sub : List Ex} {p : Option Addr} {cap : Nat} (h : Fill P g N ts j A) (hp : Put6 A g (j * 6) (N * 6) 24 (.int .i64 k) (.string nm) (.string mr) (.int .i64 it) (.int .i64 d) (.slice p sub.length cap) B)
    (hs : SubP A (fun b => P b ∨ (g < b ∧ b < A.heap.size)) sub (.slice p sub.length cap)) (hP : ∀ b, P b → b ≠ g) (ht : ∀ h : j < ts.length, ts[j] = .mk k nm mr it d sub) : Fill P g N ts (j + 1) B := by
  have hne : ∀ b, (P b ∨ (g < b ∧ b < A.heap.size)) → b ≠ g := fun b hb => by
    rcases hb with h1 | h1
    · exact hP b h1
    · omega
  have hst : StayP (fun b => P b ∨ (g < b ∧ b < A.heap.size)) A B := fun b off hb v hv => (World.cell?_of_block (hp.other b (hne b hb))).trans hv
  have hQ : ∀ b, (P b ∨ (g < b ∧ b < A.heap.size)) → (P b ∨ (g < b ∧ b < B.heap.size)) := fun b hb => by rw [hp.size]; exact hb
  refine ⟨hp.row, fun i hi h' => ?_⟩
  rcases Nat.lt_or_ge i j with h1 | h1
  · refine nodeP_stay (h.node i h1 h') hQ hst (fun x v hv hx => (hp.far _ (by omega)).trans hv)
  · obtain rfl : i = j := by omega
    rw [ht h']
    exact ⟨_, hp.k0, hp.k1, hp.k2, hp.k3, hp.k4, hp.k5, subP_stay hQ hst hs⟩
/-- all elements are there -/
theorem Fill.done {P Q : Nat → Prop} {g N : Nat} {ts : List Ex} {A B : World} (h : Fill P g N ts N A) (hN : ts.length = N) (hQ : Q g) (hPQ : ∀ b, (P b ∨ (g < b ∧ b < A.heap.size)) → Q b) (hst : StayP (fun b => b = g ∨ P b ∨ (g < b ∧ b < A.heap.size)) A B) : SubP B Q ts (.slice (some ⟨g, 0, none⟩) N N) := by
  subst hN
  refine ⟨_, _, rfl, Nat.le_refl _, fun _ => ⟨g, 0, rfl, hQ, rowP_mk fun k hk => ?_⟩⟩
  rw [Nat.zero_add]
  exact nodeP_stay (h.node k hk hk) hPQ (fun b off hb v hv => hst b off (.inr hb) v hv) (fun i v hv _ => hst g _ (.inl rfl) v hv)
end Go.Proofs.YtiagjpiclnmpkaaDoor

namespace Go.Proofs.YtiagjpiclnmpkaaDoor
open Go.RowKit

/-- a row of the call's own, to which expressions are appended: the first j are there; their parts lie in named blocks or in new ones that are not the row's -/
structure FillA (P : Nat → Prop) (base : Nat) (ts : List Ex) (j : Nat) (v : Value) (W : World) : Prop where
  own : ∃ xs, W.ownsRow base 24 6 v j xs
  node : ∀ g, v.ownBlock = some g → ∀ k (_ : k < j) (h' : k < ts.length), NodeP W (fun b => P b ∨ (base ≤ b ∧ b < W.heap.size ∧ b ≠ g)) g (k * 6) ts[k]
theorem fillA_nil (P : Nat → Prop) (base : Nat) (ts : List Ex) (W : World) : FillA P base ts 0 (.slice none 0 0) W := ⟨⟨[], World.ownsRow_nil _ _ _ _⟩, fun g h => by cases h⟩
theorem FillA.kept {P : Nat → Prop} {base : Nat} {ts : List Ex} {j : Nat} {v : Value} {A B : World} (h : FillA P base ts j v A) (hb : Below A.heap.size A B) (hP : ∀ b, P b → b < A.heap.size) : FillA P base ts j v B := by
  obtain ⟨xs, ho⟩ := h.own
  have hlt := ho.lt
  refine ⟨⟨xs, ?_⟩, fun g hg k hk h' => nodeP_stay (h.node g hg k hk h') (fun b hb' => ?_) (stay_below hb (fun b hb' => ?_)) (fun i v hv _ => (hb.cell (p := ⟨g, _, none⟩) (hlt g hg).2).trans hv)⟩
  · obtain ⟨h1, h2 | ⟨g, cap, cur, h3, h4, h5, h6⟩⟩ := ho
    · exact ⟨h1, .inl h2⟩
    · exact ⟨h1, .inr ⟨g, cap, cur, h3, h4, (hb.block g (Array.getElem?_eq_some_iff.1 h5).1).trans h5, h6⟩⟩
  · rcases hb' with h1 | h1
    · exact .inl h1
    · exact .inr ⟨h1.1, by have := hb.size; omega, h1.2.2⟩
  · rcases hb' with h1 | h1
    · exact hP b h1
    · exact h1.2.1
/-- one more: A: the world in which the append stands, B: the world behind it -/
theorem FillA.push {P : Nat → Prop} {base : Nat} {ts : List Ex} {j : Nat} {v : Value} {A B : World} {xs : List Value} {g' cap' : Nat} {k : Int} {nm mr : ByteArray} {it d : Int} {sub : List Ex} {p : Option Addr} {cap : Nat}
    (h : FillA P base ts j v A) (ho : A.ownsRow base 24 6 v j xs) (hoB : B.ownsRow base 24 6 (.slice (some ⟨g', 0, none⟩) (j + 1) cap') (j + 1) (xs ++ [.int .i64 k, .string nm, .string mr, .int .i64 it, .int .i64 d, .slice p sub.length cap])) (hg : A.grownBy B v.ownBlock) (hat : v.ownBlock = some g' ∨ g' = A.heap.size)
    (hs : SubP A (fun b => P b ∨ (base ≤ b ∧ b < A.heap.size ∧ v.ownBlock ≠ some b)) sub (.slice p sub.length cap)) (hP : ∀ b, P b → b < base) (hb : base ≤ A.heap.size) (ht : ∀ h : j < ts.length, ts[j] = .mk k nm mr it d sub) :
    FillA P base ts (j + 1) (.slice (some ⟨g', 0, none⟩) (j + 1) cap') B := by
  have hxl : xs.length = j * 6 := ho.1
  have hcB := hoB.cells (g := g') rfl
  have hlt := ho.lt
  have hne : ∀ b, (P b ∨ (base ≤ b ∧ b < A.heap.size ∧ v.ownBlock ≠ some b)) → b < A.heap.size ∧ v.ownBlock ≠ some b := fun b hb' => by
    rcases hb' with h1 | h1
    · have := hP b h1
      exact ⟨by omega, fun e => by have := (hlt b e).1; omega⟩
    · exact ⟨h1.2.1, h1.2.2⟩
  have hst : StayP (fun b => P b ∨ (base ≤ b ∧ b < A.heap.size ∧ v.ownBlock ≠ some b)) A B := fun b off hb' u hu =>
    (World.cell?_of_block (hg.block b (hne b hb').1 (fun e => (hne b hb').2 e.symm))).trans hu
  have hQ : ∀ b, (P b ∨ (base ≤ b ∧ b < A.heap.size ∧ v.ownBlock ≠ some b)) → (P b ∨ (base ≤ b ∧ b < B.heap.size ∧ b ≠ g')) := fun b hb' => by
    have h2 := hne b hb'
    rcases hb' with h1 | h1
    · exact .inl h1
    · refine .inr ⟨h1.1, by have := hg.size; omega, ?_⟩
      rintro rfl
      rcases hat with e | e
      · exact h2.2 e
      · omega
  refine ⟨⟨_, hoB⟩, fun g e i hi h' => ?_⟩
  obtain rfl : g' = g := by simpa [Value.ownBlock] using e
  have cellB : ∀ x u, (xs ++ [Value.int .i64 k, .string nm, .string mr, .int .i64 it, .int .i64 d, .slice p sub.length cap])[x]? = some u → B.cell? ⟨g', x, none⟩ = some u := fun x u hx => by
    have := hcB x u hx
    rwa [Go.WideShapes.add_plain, Nat.zero_add] at this
  rcases Nat.lt_or_ge i j with h1 | h1
  · have hv : ∃ g0, v.ownBlock = some g0 := by
      obtain ⟨_, h2 | ⟨g0, c0, cur, h3, _⟩⟩ := ho
      · omega
      · exact ⟨g0, by rw [h3]; rfl⟩
    obtain ⟨g0, hg0⟩ := hv
    have hcA := ho.cells hg0
    obtain ⟨sv, n0, n1, n2, n3, n4, n5, n6⟩ := h.node g0 hg0 i h1 h'
    have tr : ∀ x u, x < j * 6 → A.cell? ⟨g0, x, none⟩ = some u → B.cell? ⟨g', x, none⟩ = some u := fun x u hx hu => by
      have hxx : xs[x]? = some (xs[x]'(by omega)) := List.getElem?_eq_getElem _
      have h5 := hcA x _ hxx
      rw [Go.WideShapes.add_plain, Nat.zero_add, hu] at h5
      refine cellB x u ?_
      rw [List.getElem?_append_left (by omega), hxx, ← h5]
    refine ⟨sv, tr _ _ (by omega) n0, tr _ _ (by omega) n1, tr _ _ (by omega) n2, tr _ _ (by omega) n3, tr _ _ (by omega) n4, tr _ _ (by omega) n5, subP_stay (P := fun b => P b ∨ (base ≤ b ∧ b < A.heap.size ∧ b ≠ g0)) (fun b hb' => hQ b ?_) (fun b off hb' u hu => hst b off ?_ u hu) n6⟩
    · rcases hb' with h5 | h5
      · exact .inl h5
      · exact .inr ⟨h5.1, h5.2.1, by rw [hg0]; simpa using fun e => h5.2.2 e.symm⟩
    · rcases hb' with h5 | h5
      · exact .inl h5
      · exact .inr ⟨h5.1, h5.2.1, by rw [hg0]; simpa using fun e => h5.2.2 e.symm⟩
  · obtain rfl : i = j := by omega
    rw [ht h']
    have cn : ∀ x u, [Value.int .i64 k, .string nm, .string mr, .int .i64 it, .int .i64 d, .slice p sub.length cap][x]? = some u → B.cell? ⟨g', i * 6 + x, none⟩ = some u := fun x u hx => by
      refine cellB _ u ?_
      rw [List.getElem?_append_right (by omega), hxl, Nat.add_sub_cancel_left]; exact hx
    exact ⟨_, cn 0 _ rfl, cn 1 _ rfl, cn 2 _ rfl, cn 3 _ rfl, cn 4 _ rfl, cn 5 _ rfl, subP_stay hQ hst hs⟩
/-- a block that is neither named nor new has turned -/
theorem FillA.other {P : Nat → Prop} {base x : Nat} {ts : List Ex} {j : Nat} {v : Value} {A B : World} (h : FillA P base ts j v A) (hx : x < base) (hP : ∀ b, P b → b ≠ x) (hb : ∀ b, b ≠ x → B.heap[b]? = A.heap[b]?) (hs : B.heap.size = A.heap.size) : FillA P base ts j v B := by
  obtain ⟨xs, ho⟩ := h.own
  have hlt := ho.lt
  refine ⟨⟨xs, ?_⟩, fun g hg k hk h' => nodeP_stay (h.node g hg k hk h') (fun b hb' => by rw [hs]; exact hb') (fun b off hb' u hu => (World.cell?_of_block (hb b ?_)).trans hu) (fun i v hv _ => (World.cell?_of_block (hb g (by have := (hlt g hg).1; omega))).trans hv)⟩
  · obtain ⟨h1, h2 | ⟨g, cap, cur, h3, h4, h5, h6⟩⟩ := ho
    · exact ⟨h1, .inl h2⟩
    · exact ⟨h1, .inr ⟨g, cap, cur, h3, h4, (hb g (by omega)).trans h5, h6⟩⟩
  · rcases hb' with h1 | h1
    · exact hP b h1
    · omega
theorem FillA.done {P Q : Nat → Prop} {base : Nat} {ts : List Ex} {j : Nat} {v : Value} {A B : World} (h : FillA P base ts j v A) (hj : ts.length = j) (hPQ : ∀ b, (P b ∨ (base ≤ b ∧ b < A.heap.size)) → Q b) (hst : StayP (fun b => P b ∨ (base ≤ b ∧ b < A.heap.size)) A B) : SubP B Q ts v := by
  subst hj
  obtain ⟨xs, ho⟩ := h.own
  have hlt := ho.lt
  obtain ⟨h1, ⟨rfl, h2⟩ | ⟨g, cap, cur, rfl, h4, h5, h6, _⟩⟩ := ho
  · exact ⟨none, 0, by rw [h2], by omega, fun hp => by omega⟩
  · refine ⟨_, _, rfl, h6, fun _ => ⟨g, 0, rfl, hPQ g (.inr (hlt g rfl)), rowP_mk fun k hk => ?_⟩⟩
    rw [Nat.zero_add]
    refine nodeP_stay (h.node g rfl k hk hk) (fun b hb => hPQ b ?_) (fun b off hb v hv => hst b off ?_ v hv) (fun i v hv _ => hst g _ (.inr (hlt g rfl)) v hv)
    · rcases hb with h7 | h7
      · exact .inl h7
      · exact .inr ⟨h7.1, h7.2.1⟩
    · rcases hb with h7 | h7
      · exact .inl h7
      · exact .inr ⟨h7.1, h7.2.1⟩
end Go.Proofs.YtiagjpiclnmpkaaDoor
