/- Texts of this proof, part 17: what the proof uses of them. -/
import Derived.Test.YtnnolijagpakiaaGreatDoorRows
import Derived.Test.YtnnolijagpakiaaGreatDoorRag
import Derived.Deep.Slices
import Derived.Carry
import Derived.Test.YtnnolijagpakiaaGreatDoorRap
import Derived.Test.YtnnolijagpakiaaGreatDoorCards
import Derived.Test.YtnnolijagpakiaaGreatDoorTie
import Derived.WalkKit
import Derived.ProofKit
import Derived.OpenShut
import Derived.Deep.DeepHandedRow
import Derived.Lib.LaidTab
import Derived.Below
import Derived.ChangeSame
import Derived.Stop.LaidErr
import Derived.MakeChecks
import Derived.ShapedOpen
namespace Go.Proofs.YtnnolijagpakiaaGreatDoor
open Go Go.ChangeShapes Go.WideShapes Go.Deep Go.RowKit
inductive Typed (P : Program) : TypeId → List D → Prop
 | int {t : TypeId} {k : IntKind} (n : Int) (h : P.underlying t = some (.int k)) (hw : (Lit.int k n).wf = true) : Typed P t [.raw (.int k n)]
 | str {t : TypeId} (s : ByteArray) (h : P.underlying t = some .string) (hs : s.size ≤ Go.maxLen) : Typed P t [.raw (.string s)]
 | bool {t : TypeId} (b : Bool) (h : P.underlying t = some .bool) : Typed P t [.raw (.bool b)]
 | struct {t : TypeId} (fs : Array Field) (parts : List (List D)) (h : P.underlying t = some (.struct fs)) (hl : parts.length = fs.toList.length) (hp : ∀ i (hi : i < fs.toList.length) (hi' : i < parts.length), Typed P fs.toList[i].type parts[i]) : Typed P t parts.flatten
 | slice {t e : TypeId} (rows : List (List D)) (h : P.underlying t = some (.slice e)) (hr : ∀ i (hi : i < rows.length), Typed P e rows[i]) : Typed P t [.sl rows]
mutual
def D.size : D → Nat
 | .raw v => match v with
  | .string s => s.size + 1
  | _ => 1
 | .sl rows => sizeR rows + 1
def sizeL : List D → Nat
 | [] => 0
 | d :: l => d.size + sizeL l
def sizeR : List (List D) → Nat
 | [] => 0
 | r :: rs => sizeL r + sizeR rs
end
theorem sizeL_append : ∀ a b : List D, sizeL (a ++ b) = sizeL a + sizeL b
 | [], b => by simp [sizeL]
 | x :: a, b => by simp [sizeL, sizeL_append a b]; omega
theorem typed_int {P : Program} {t : TypeId} {k : IntKind} {ds : List D} (h : Typed P t ds) (ht : P.underlying t = some (.int k)) : ∃ n, ds = [.raw (.int k n)] ∧ (Lit.int k n).wf = true := by
 cases h with
 | int n h hw => rw [ht] at h; cases h; exact ⟨n, rfl, hw⟩
 | str s h => rw [ht] at h; cases h
 | bool b h => rw [ht] at h; cases h
 | struct fs parts h => rw [ht] at h; cases h
 | slice rows h => rw [ht] at h; cases h
theorem typed_str {P : Program} {t : TypeId} {ds : List D} (h : Typed P t ds) (ht : P.underlying t = some .string) : ∃ s, ds = [.raw (.string s)] ∧ s.size ≤ Go.maxLen := by
 cases h with
 | int n h hw => rw [ht] at h; cases h
 | str s h hs => exact ⟨s, rfl, hs⟩
 | bool b h => rw [ht] at h; cases h
 | struct fs parts h => rw [ht] at h; cases h
 | slice rows h => rw [ht] at h; cases h
theorem typed_bool {P : Program} {t : TypeId} {ds : List D} (h : Typed P t ds) (ht : P.underlying t = some .bool) : ∃ b, ds = [.raw (.bool b)] := by
 cases h with
 | int n h hw => rw [ht] at h; cases h
 | str s h => rw [ht] at h; cases h
 | bool b h => exact ⟨b, rfl⟩
 | struct fs parts h => rw [ht] at h; cases h
 | slice rows h => rw [ht] at h; cases h
theorem typed_slice {P : Program} {t e : TypeId} {ds : List D} (h : Typed P t ds) (ht : P.underlying t = some (.slice e)) : ∃ rows, ds = [.sl rows] ∧ ∀ i (hi : i < rows.length), Typed P e rows[i] := by
 cases h with
 | int n h hw => rw [ht] at h; cases h
 | str s h => rw [ht] at h; cases h
 | bool b h => rw [ht] at h; cases h
 | struct fs parts h => rw [ht] at h; cases h
 | slice rows h hr => rw [ht] at h; cases h; exact ⟨rows, rfl, hr⟩
theorem typed_struct {P : Program} {t : TypeId} {fs : Array Field} {ds : List D} (h : Typed P t ds) (ht : P.underlying t = some (.struct fs)) : ∃ parts : List (List D), ds = parts.flatten ∧ parts.length = fs.toList.length ∧ ∀ i (hi : i < fs.toList.length) (hi' : i < parts.length), Typed P fs.toList[i].type parts[i] := by
 cases h with
 | int n h hw => rw [ht] at h; cases h
 | str s h => rw [ht] at h; cases h
 | bool b h => rw [ht] at h; cases h
 | struct fs parts h hl hp => rw [ht] at h; cases h; exact ⟨parts, rfl, hl, hp⟩
 | slice rows h => rw [ht] at h; cases h
def allR (R : D → Value → Prop) : List D → List Value → Prop
 | [], [] => True
 | d :: ds, c :: cs => R d c ∧ allR R ds cs
 | _, _ => False
theorem allR_append {R : D → Value → Prop} : ∀ {a b : List D} {c d : List Value}, allR R a c → allR R b d → allR R (a ++ b) (c ++ d)
 | [], _, [], _, _, h => h
 | [], _, _ :: _, _, h, _ => h.elim
 | _ :: _, _, [], _, h, _ => h.elim
 | _ :: _, _, _ :: _, _, h, h' => ⟨h.1, allR_append h.2 h'⟩
theorem allR_spec {R : D → Value → Prop} : ∀ {a : List D} {c : List Value}, allR R a c → a.length = c.length ∧ ∀ i (hi : i < a.length) (hv : i < c.length), R a[i] c[i]
 | [], [], _ => ⟨rfl, fun i hi => absurd hi (Nat.not_lt_zero _)⟩
 | [], _ :: _, h => h.elim
 | _ :: _, [], h => h.elim
 | x :: a, y :: c, h => by
  obtain ⟨h1, h2⟩ := allR_spec h.2
  refine ⟨by simp [h1], fun i hi hv => ?_⟩
  cases i with
  | zero => exact h.1
  | succ i => exact h2 i (by simpa using hi) (by simpa using hv)
def packedL (P : Program) : Nat → List Field → Option Nat
 | n, [] => some n
 | n, f :: fs => if f.offset = n then packedL P (n + P.cellsOf f.type) fs else none
def plainTy (P : Program) (tys : List TypeId) (t : TypeId) : Bool :=
 match P.underlying t with
 | some (.int _) => true
 | some .string => true
 | some .bool => true
 | some (.slice e) => tys.contains e && decide (P.cellsOf e ≠ 0)
 | some (.struct fs) => decide (packedL P 0 fs.toList = some (P.cellsOf t)) && fs.toList.all (fun f => tys.contains f.type)
 | _ => false
theorem blkOne {H : Type} (d : DataW H) : 1 ≤ Rows.uptoBulk d := by
 cases d with
 | lit l => cases l <;> simp [Rows.uptoBulk]
 | nil => simp [Rows.uptoBulk]
 | ptr d => simp [Rows.uptoBulk]
 | slice elems spare => simp [Rows.uptoBulk]
 | agg parts => simp [Rows.uptoBulk]
 | iface t d => simp [Rows.uptoBulk]
 | map entries => simp [Rows.uptoBulk]
 | held h => simp [Rows.uptoBulk]
theorem blkPart {H : Type} {d : DataW H} {l : List (DataW H)} (h : d ∈ l) : Rows.uptoBulk d ≤ Rows.uptoBulkAll l := by
 induction l with
 | nil => cases h
 | cons x r ih =>
  simp only [Rows.uptoBulkAll]
  cases List.mem_cons.1 h with
  | inl e => subst e; omega
  | inr e => have := ih e; omega
theorem blkRows {H : Type} (f : Nat → List D) (E : Nat → DataW H) : ∀ l : List Nat, (∀ i ∈ l, sizeL (f i) ≤ Rows.uptoBulk (E i)) → sizeR (l.map f) ≤ Rows.uptoBulkAll (l.map E)
 | [], _ => by simp [sizeR]
 | a :: r, h => by
  have h1 := h a (by simp)
  have h2 := blkRows f E r (fun i hi => h i (by simp [hi]))
  simp only [List.map_cons, sizeR, Rows.uptoBulkAll]; omega
section
variable {H : Type} {enc : TypeId × Value → H} {P : Program} {W : World} {base : Nat} {spare : Nat → Bool} {held : Bool}
abbrev below (W : World) : Nat → Nat → Prop := fun b _ => b < W.heap.size
def Opened (P : Program) (W : World) (t : TypeId) (cs : List Value) (n : Nat) : Prop := ∃ ds : List D, Typed P t ds ∧ allR (Reads W (below W)) ds cs ∧ sizeL ds ≤ n
theorem open_typed {tys : List TypeId} (hall : tys.all (plainTy P tys) = true) (N : Nat) : ∀ (fuel : Nat) (t : TypeId) (cs : List Value) (x : DataW H × List MemPlace), Rows.uptoBulk x.1 ≤ N → tys.contains t = true → DataW.trod enc P W base spare held fuel t cs = some x → (∀ p ∈ x.2, p.block < W.heap.size) →
  Opened P W t cs (Rows.uptoBulk x.1) := by
 induction N with
 | zero => intro fuel t cs x hN; have := blkOne x.1; omega
 | succ N ih =>
  intro fuel t cs x hN ht h hlt
  have hp : plainTy P tys t = true := List.all_eq_true.1 hall t (by simpa using ht)
  unfold plainTy at hp
  split at hp
  ·rename_i k hk
   obtain ⟨n, rfl, hx, hw⟩ := DataW.trod_int hk h
   exact ⟨_, .int n hk hw, ⟨.raw _, trivial⟩, by simpa [sizeL, D.size] using blkOne x.1⟩
  ·rename_i hk
   obtain ⟨s, rfl, rfl, hs⟩ := DataW.trod_string hk h
   refine ⟨_, .str s hk hs, ⟨.raw _, trivial⟩, ?_⟩
   have : s.data.toList.length = s.size := rfl
   simp only [sizeL, D.size, Rows.uptoBulk, this]
   omega
  ·rename_i hk
   obtain ⟨b, rfl, hx⟩ := DataW.trod_bool hk h
   exact ⟨_, .bool b hk, ⟨.raw _, trivial⟩, by simpa [sizeL, D.size] using blkOne x.1⟩
  ·rename_i e hk
   simp only [Bool.and_eq_true, decide_eq_true_eq] at hp
   obtain ⟨he, h0⟩ := hp
   rcases open_slice hk h with ⟨rfl, rfl⟩ | ⟨a, len, cap, m, n', E, Pl, rfl, _, hlc, hcm, hm, rfl, hi⟩
   ·exact ⟨_, .slice [] hk (fun i hi => absurd hi (Nat.not_lt_zero _)), ⟨.nil _ _, trivial⟩, by simp [sizeL, D.size, sizeR, Rows.uptoBulk]⟩
   ·have hlm : len ≤ m := by rw [hm]; split <;> omega
    have hbs : Rows.uptoBulkAll ((List.range len).map E) + 1 ≤ Rows.uptoBulk (DataW.slice ((List.range len).map E) ((List.range (m - len)).map fun j => E (len + j))) := by simp only [Rows.uptoBulk]; omega
    have hbx : Rows.uptoBulk (DataW.slice ((List.range len).map E) ((List.range (m - len)).map fun j => E (len + j))) ≤ N + 1 := hN
    have ex : ∀ i, ∃ r : List D, i < len → (Typed P e r ∧ sizeL r ≤ Rows.uptoBulk (E i) ∧ ∃ cs', W.cells? base (a.add (i * P.cellsOf e)) (P.cellsOf e) = some cs' ∧ allR (Reads W (below W)) r cs') := by
     intro i
     by_cases hil : i < len
     ·obtain ⟨cs', hc, hti⟩ := hi i (by omega)
      have hbi := blkPart (d := E i) (l := (List.range len).map E) (List.mem_map.2 ⟨i, List.mem_range.2 hil, rfl⟩)
      obtain ⟨r, h1, h2, h3⟩ := ih n' e cs' (E i, Pl i) (by show Rows.uptoBulk (E i) ≤ N; omega) he hti (fun p hp => hlt p (List.mem_append.2 (.inr (List.mem_flatMap.2 ⟨i, List.mem_range.2 (by omega), hp⟩))))
      exact ⟨r, fun _ => ⟨h1, h3, cs', hc, h2⟩⟩
     ·exact ⟨[], fun h => absurd h hil⟩
    obtain ⟨f, hf⟩ := Classical.axiomOfChoice ex
    have hsz := blkRows f E (List.range len) (fun i hi => (hf i (List.mem_range.1 hi)).2.1)
    have hget : ∀ i (hi : i < ((List.range len).map f).length), ((List.range len).map f)[i] = f i := fun i hi => by simp
    refine ⟨_, .slice ((List.range len).map f) hk (fun i hi => by rw [hget i hi]; exact (hf i (by simpa using hi)).1), ⟨?_, trivial⟩, ?_⟩
    ·by_cases hp : 0 < len
     ·obtain ⟨b, off, spot⟩ := a
      have cell0 : ∀ i, i < len → ∀ j (hj : j < (f i).length), ∃ u, W.cell? (((⟨b, off, spot⟩ : Addr).add (i * P.cellsOf e)).add j) = some u ∧ Reads W (below W) (f i)[j] u := fun i hi j hj => by
       obtain ⟨_, _, cs', hc, hr⟩ := hf i hi
       obtain ⟨_, hl, hat⟩ := World.cells?_some hc
       obtain ⟨h1, h2⟩ := allR_spec hr
       have hj' : j < cs'.length := by omega
       exact ⟨cs'[j], by rw [hat j (by omega), List.getElem?_eq_getElem hj'], h2 j hj hj'⟩
      have hfl : ∀ i, i < len → (f i).length = P.cellsOf e := fun i hi => by
       obtain ⟨_, _, cs', hc, hr⟩ := hf i hi
       obtain ⟨_, hl, _⟩ := World.cells?_some hc
       rw [(allR_spec hr).1, hl]
      obtain ⟨u0, hu0, _⟩ := cell0 0 hp 0 (by rw [hfl 0 hp]; omega)
      have hspot : spot = none := by simpa [Addr.add] using World.cell?_spot hu0
      subst hspot
      have hblt : b < W.heap.size := by
       have : MemPlace.cell b (off + 0) ∈ MemPlace.row ⟨b, off, none⟩ (m * P.cellsOf e) ++ (List.range m).flatMap Pl := by
        refine List.mem_append.2 (.inl ?_)
        unfold MemPlace.row
        exact List.mem_map.2 ⟨0, List.mem_range.2 (Nat.mul_pos (by omega) (by omega)), rfl⟩
       exact hlt _ this
      have hlen : ((List.range len).map f).length = len := by simp
      have key : Reads W (below W) (.sl ((List.range len).map f)) (.slice (some ⟨b, off, none⟩) ((List.range len).map f).length cap) := by
       refine Reads.mk (st := P.cellsOf e) (by omega) (fun i hi => by rw [hget i hi]; exact hfl i (by simpa using hi)) fun i hi j hj => ?_
       have hi' : i < len := by simpa using hi
       have hj' : j < (f i).length := by rw [hget i hi] at hj; exact hj
       obtain ⟨u, hu, hr⟩ := cell0 i hi' j hj'
       rw [Go.WideShapes.add_plain, Go.WideShapes.add_plain] at hu
       refine ⟨hblt, u, hu, ?_⟩
       have : ((List.range len).map f)[i][j] = (f i)[j] := by simp
       rw [this]
       exact hr
      rw [hlen] at key
      exact key
     ·obtain rfl : len = 0 := by omega
      exact .nil _ _
    ·simp only [sizeL, D.size]
     show sizeR ((List.range len).map f) + 1 + 0 ≤ Rows.uptoBulk (DataW.slice ((List.range len).map E) ((List.range (m - len)).map fun j => E (len + j)))
     omega
  ·rename_i fs hk
   simp only [Bool.and_eq_true, decide_eq_true_eq] at hp
   obtain ⟨hpk, hfs⟩ := hp
   obtain ⟨xs, n, _, hx, hlen, hxl, hf⟩ := DataW.trod_struct hk h
   subst hx
   have step : ∀ (fl : List Field) (ys : List (DataW H × List MemPlace)) (k : Nat), packedL P k fl = some (P.cellsOf t) → ys.length = fl.length → (∀ y ∈ ys, y ∈ xs) → (∀ f ∈ fl, tys.contains f.type = true) → (∀ (i : Nat) (f : Field), fl[i]? = some f → DataW.trod enc P W base spare held n f.type ((cs.drop f.offset).take (P.cellsOf f.type)) = ys[i]?) →
     ∃ parts : List (List D), parts.length = fl.length ∧ (∀ i (hi : i < fl.length) (hi' : i < parts.length), Typed P fl[i].type parts[i]) ∧ allR (Reads W (below W)) parts.flatten (cs.drop k) ∧ sizeL parts.flatten ≤ Rows.uptoBulkAll (ys.map (·.1)) := by
    intro fl
    induction fl with
    | nil =>
     intro ys k hk' hl _ _ _
     obtain rfl : ys = [] := List.eq_nil_of_length_eq_zero hl
     simp only [packedL, Option.some.injEq] at hk'
     refine ⟨[], rfl, fun i hi => absurd hi (Nat.not_lt_zero _), ?_, by simp [sizeL, Rows.uptoBulkAll]⟩
     rw [List.drop_of_length_le (by omega)]
     trivial
    | cons f fl ih2 =>
     intro ys k hk' hl hys htys hf'
     match ys, hl with
     | y :: ys, hl =>
      unfold packedL at hk'
      split at hk'
      ·rename_i hoff
       obtain ⟨parts, p1, p2, p3, p4⟩ := ih2 ys _ hk' (by simpa using hl) (fun z hz => hys z (by simp [hz])) (fun g hg => htys g (by simp [hg])) (fun i g hg => by have := hf' (i + 1) g (by simpa using hg); simpa using this)
       have ht0 : DataW.trod enc P W base spare held n f.type ((cs.drop f.offset).take (P.cellsOf f.type)) = some y := by simpa using hf' 0 f rfl
       have hb0 := blkPart (d := y.1) (l := xs.map (·.1)) (List.mem_map.2 ⟨y, hys y (by simp), rfl⟩)
       obtain ⟨r, h1, h2, h3⟩ := ih n f.type _ y (by simp only [Rows.uptoBulk] at hN; omega) (htys f (by simp)) ht0 (fun p hp => hlt p (List.mem_flatMap.2 ⟨y, hys y (by simp), hp⟩))
       refine ⟨r :: parts, by simp [p1], fun i hi hi' => ?_, ?_, ?_⟩
       ·cases i with
        | zero => exact h1
        | succ i => exact p2 i (by simpa using hi) (by simpa using hi')
       ·rw [List.flatten_cons]
        have e : cs.drop k = (cs.drop f.offset).take (P.cellsOf f.type) ++ cs.drop (k + P.cellsOf f.type) := by
         rw [hoff, ← List.drop_drop, List.take_append_drop]
        rw [e]
        exact allR_append h2 p3
       ·rw [List.flatten_cons, sizeL_append]
        simp only [List.map_cons, Rows.uptoBulkAll]
        omega
      ·cases hk'
   obtain ⟨parts, p1, p2, p3, p4⟩ := step fs.toList xs 0 hpk (by simpa using hxl) (fun _ h => h) (fun f hf => List.all_eq_true.1 hfs f hf) (fun i f hf' => hf i f (by simpa using hf'))
   refine ⟨_, .struct fs parts hk p1 p2, by simpa using p3, ?_⟩
   simp only [Rows.uptoBulk]
   omega
  ·cases hp
end
theorem allR_agg {W : World} {ds : List D} {cs : List Value} (h : allR (Reads W (below W)) ds cs) : HasC W (below W) (.agg (ds.map .d)) (.agg cs.toArray) := by
 obtain ⟨h1, h2⟩ := allR_spec h
 refine .agg _ _ (by simp [h1]) fun i hi hv => ?_
 rw [List.getElem_map]
 exact .d (h2 i (by simpa using hi) hv)
theorem allR_one {W : World} {d : D} {v : Value} (h : allR (Reads W (below W)) [d] [v]) : HasC W (below W) (.d d) v := .d h.1
end Go.Proofs.YtnnolijagpakiaaGreatDoor
namespace Go.Proofs.YtnnolijagpakiaaGreatDoor
open Go Go.RowKit
theorem typed_strs {e : TypeId} (he : Tryz.prog.underlying e = some .string) : ∀ rows : List (List D), (∀ i (hi : i < rows.length), Typed Tryz.prog e rows[i]) → ∃ l : List ByteArray, rows = encS l ∧ l.length ≤ sizeR rows
 | [], _ => ⟨[], rfl, Nat.zero_le _⟩
 | r :: rows, h => by
  obtain ⟨s, hs, _⟩ := typed_str (h 0 (by simp)) he
  obtain ⟨l, hl, hn⟩ := typed_strs he rows fun i hi => by have := h (i + 1) (by simpa using hi); simpa using this
  have hs : r = [.raw (.string s)] := by simpa using hs
  subst hs hl
  refine ⟨s :: l, rfl, ?_⟩
  simp only [sizeR, sizeL, D.size, List.length_cons]
  omega
theorem typed_rows {α : Type} {e : TypeId} {enc : α → List D} {sz : α → Nat} {szL : List α → Nat} (h0 : szL [] = 0) (hc : ∀ a l, szL (a :: l) = sz a + szL l) (N : Nat) (ih : ∀ ds, sizeL ds ≤ N → Typed Tryz.prog e ds → ∃ t, ds = enc t ∧ sz t ≤ sizeL ds) : ∀ rows : List (List D), sizeR rows ≤ N → (∀ i (hi : i < rows.length), Typed Tryz.prog e rows[i]) → ∃ l : List α, rows = l.map enc ∧ szL l ≤ sizeR rows
 | [], _, _ => ⟨[], rfl, by rw [h0]; exact Nat.zero_le _⟩
 | r :: rows, hN, h => by
  simp only [sizeR] at hN
  obtain ⟨t, ht, hn⟩ := ih r (by omega) (by have := h 0 (by simp); simpa using this)
  obtain ⟨l, hl, hn2⟩ := typed_rows h0 hc N ih rows (by omega) fun i hi => by have := h (i + 1) (by simpa using hi); simpa using this
  subst ht hl
  refine ⟨t :: l, rfl, ?_⟩
  rw [hc]
  simp only [sizeR]
  omega
theorem typed_ex (N : Nat) : ∀ ds : List D, sizeL ds ≤ N → Typed Tryz.prog 36 ds → ∃ t : Ex, ds = encE t ∧ nodesE t ≤ sizeL ds := by
 induction N with
 | zero =>
  intro ds hN h
  obtain ⟨parts, rfl, hl, hp⟩ := typed_struct h Tryz.underlying36
  match parts, hl with
  | [p0, p1, p2, p3, p4, p5], _ =>
   obtain ⟨k, rfl, _⟩ := typed_int (hp 0 (by decide) (by simp)) Tryz.underlying3
   simp [sizeL, D.size] at hN
 | succ N ih =>
  intro ds hN h
  obtain ⟨parts, rfl, hl, hp⟩ := typed_struct h Tryz.underlying36
  match parts, hl with
  | [p0, p1, p2, p3, p4, p5], _ =>
   obtain ⟨k, rfl, _⟩ := typed_int (hp 0 (by decide) (by simp)) Tryz.underlying3
   obtain ⟨n, e1, _⟩ := typed_str (hp 1 (by decide) (by simp)) Tryz.underlying9
   obtain ⟨m, e2, _⟩ := typed_str (hp 2 (by decide) (by simp)) Tryz.underlying9
   obtain ⟨i, e3, _⟩ := typed_int (hp 3 (by decide) (by simp)) Tryz.underlying3
   obtain ⟨d, e4, _⟩ := typed_int (hp 4 (by decide) (by simp)) Tryz.underlying3
   obtain ⟨rows, e5, hr⟩ := typed_slice (hp 5 (by decide) (by simp)) Tryz.underlying34
   have e1 : p1 = [.raw (.string n)] := e1
   have e2 : p2 = [.raw (.string m)] := e2
   have e3 : p3 = [.raw (.int .i64 i)] := e3
   have e4 : p4 = [.raw (.int .i64 d)] := e4
   have e5 : p5 = [.sl rows] := e5
   subst e1 e2 e3 e4 e5
   simp only [List.flatten_cons, List.flatten_nil, List.append_nil, List.cons_append, List.nil_append, sizeL, D.size] at hN ⊢
   obtain ⟨l, rfl, hn⟩ := typed_rows (enc := encE) (sz := nodesE) (szL := nodesL) rfl (fun _ _ => rfl) N ih rows (by omega) hr
   refine ⟨.mk k n m i d l, ?_, ?_⟩
   ·rw [encE, encL_map]
   ·rw [nodesE]; omega
theorem typed_decl {ds : List D} (h : Typed Tryz.prog 57 ds) : ∃ x : Dc, ds = encD x ∧ nodesE x.body + x.names.length ≤ sizeL ds := by
 obtain ⟨parts, rfl, hl, hp⟩ := typed_struct h Tryz.underlying57
 match parts, hl with
 | [p0, p1, p2, p3, p4, p5], _ =>
  obtain ⟨id, e0, _⟩ := typed_int (hp 0 (by decide) (by simp)) Tryz.underlying3
  obtain ⟨kind, e1, _⟩ := typed_int (hp 1 (by decide) (by simp)) Tryz.underlying3
  obtain ⟨pub, e2⟩ := typed_bool (hp 2 (by decide) (by simp)) Tryz.underlying4
  obtain ⟨rows, e3, hr⟩ := typed_slice (hp 3 (by decide) (by simp)) Tryz.underlying23
  obtain ⟨doubt, e4⟩ := typed_bool (hp 4 (by decide) (by simp)) Tryz.underlying4
  obtain ⟨b, e5, hb0⟩ := typed_ex _ _ (Nat.le_refl _) (hp 5 (by decide) (by simp))
  obtain ⟨names, e6, hn⟩ := typed_strs Tryz.underlying9 rows hr
  have e0 : p0 = [.raw (.int .i64 id)] := e0
  have e1 : p1 = [.raw (.int .i64 kind)] := e1
  have e2 : p2 = [.raw (.bool pub)] := e2
  have e3 : p3 = [.sl rows] := e3
  have e4 : p4 = [.raw (.bool doubt)] := e4
  have e5 : p5 = encE b := e5
  have hb5 : nodesE b ≤ sizeL p5 := hb0
  clear hb0
  rw [e5] at hb5
  subst e0 e1 e2 e3 e4 e5 e6
  refine ⟨⟨id, kind, pub, names, doubt, b⟩, ?_, ?_⟩
  ·simp only [List.flatten_cons, List.flatten_nil, List.append_nil, List.cons_append, List.nil_append, encD, encE_eq]
  ·simp only [List.flatten_cons, List.flatten_nil, List.append_nil, List.cons_append, List.nil_append, sizeL, D.size, encE_eq] at hb5 ⊢
   omega
def nodesD (l : List Dc) : Nat := (l.map fun x => nodesE x.body + x.names.length).sum
theorem typed_source {ds : List D} (h : Typed Tryz.prog 26 ds) : ∃ x : Sr, ds = [.sl (encS x.uses), .sl (encDs x.decls)] ∧ x.uses.length + nodesD x.decls ≤ sizeL ds := by
 obtain ⟨parts, rfl, hl, hp⟩ := typed_struct h Tryz.underlying26
 match parts, hl with
 | [p0, p1], _ =>
  obtain ⟨rows, e0, hr⟩ := typed_slice (hp 0 (by decide) (by simp)) Tryz.underlying23
  obtain ⟨uses, e6, hn⟩ := typed_strs Tryz.underlying9 rows hr
  obtain ⟨rows2, e1, hr2⟩ := typed_slice (hp 1 (by decide) (by simp)) Tryz.underlying24
  obtain ⟨decls, e7, hn2⟩ := typed_rows (enc := encD) (sz := fun x : Dc => nodesE x.body + x.names.length) (szL := nodesD) rfl (fun a l => by simp [nodesD]) _ (fun ds _ h => typed_decl h) rows2 (Nat.le_refl _) hr2
  have e0 : p0 = [.sl rows] := e0
  have e1 : p1 = [.sl rows2] := e1
  subst e0 e1 e6 e7
  refine ⟨⟨uses, decls⟩, rfl, ?_⟩
  simp only [List.flatten_cons, List.flatten_nil, List.append_nil, List.cons_append, List.nil_append, sizeL, D.size]
  omega
def plainTys : List TypeId := [3, 9, 4, 36, 34, 23, 57, 24, 26]
theorem plain_ok : plainTys.all (plainTy Tryz.prog plainTys) = true := by kernel_rfl
theorem nodesD_get {l : List Dc} {x : Dc} (h : x ∈ l) : nodesE x.body + x.names.length ≤ nodesD l := by
 induction l with
 | nil => cases h
 | cons y l ih =>
  simp only [nodesD, List.map_cons, List.sum_cons]
  rcases List.mem_cons.1 h with rfl | h
  ·omega
  ·have := ih h
   simp only [nodesD] at this
   omega
end Go.Proofs.YtnnolijagpakiaaGreatDoor
namespace Go.Proofs.YtnnolijagpakiaaGreatDoor
open Go Go.RowKit
def plainTysR : List TypeId := plainTys ++ [43, 32, 5, 51]
theorem plain_okR : plainTysR.all (plainTy Tryz.prog plainTysR) = true := by kernel_rfl
def encU8 (l : List UInt8) : List (List D) := l.map fun x => [.raw (.int .u8 x.toNat)]
theorem typed_u8 {ds : List D} (h : Typed Tryz.prog 5 ds) : ∃ x : UInt8, ds = [.raw (.int .u8 x.toNat)] ∧ 1 ≤ sizeL ds := by
 obtain ⟨k, e0, hw⟩ := typed_int h Tryz.underlying5
 subst e0
 have hk : 0 ≤ k ∧ k ≤ 255 := by
  simp only [Lit.wf, Bool.and_eq_true, decide_eq_true_eq] at hw
  have h1 : IntKind.u8.min = 0 := rfl
  have h2 : IntKind.u8.max = 255 := rfl
  omega
 refine ⟨UInt8.ofNat k.toNat, ?_, by simp [sizeL, D.size]⟩
 have : ((UInt8.ofNat k.toNat).toNat : Int) = k := by
  rw [UInt8.toNat_ofNat']
  omega
 rw [this]
theorem typed_u8s {ds : List D} (h : Typed Tryz.prog 51 ds) : ∃ t : List UInt8, ds = [.sl (encU8 t)] ∧ t.length ≤ sizeL ds := by
 obtain ⟨rows, rfl, hr⟩ := typed_slice h Tryz.underlying51
 obtain ⟨l, rfl, hn⟩ := typed_rows (enc := fun x : UInt8 => [.raw (.int .u8 x.toNat)]) (sz := fun _ : UInt8 => 1) (szL := List.length) rfl (fun a l => by rw [List.length_cons]; omega) _ (fun ds _ h => typed_u8 h) rows (Nat.le_refl _) hr
 refine ⟨l, rfl, ?_⟩
 simp only [sizeL, D.size]
 omega
end Go.Proofs.YtnnolijagpakiaaGreatDoor
namespace Go.Proofs.YtnnolijagpakiaaGreatDoor
open Go.ChangeShapes Go.WideShapes Go.ChangeAt Go.RowKit
section
variable {H : Type} {enc : TypeId × Value → H} {P : Program}
theorem post_of_below {f : Func} {s : ChangeSpec} {apart fresh handsOn again : Bool} {W W' : World} {args : Array Value} {v : Value} {ds gs : List (DataW H)} {before pa pv : List MemPlace}
  (hW : DataW.Whole enc P f.params.toList s.vars apart W args.toList ds gs before)
  (hres : ∀ (b : Nat) (sp : Nat → Bool) (hd : Bool), DataW.TrodAll enc P W' b sp hd f.resultTypes.toList (v.resultList f.resultTypes.size) (s.fn H (ds ++ gs)).results [])
  (hargs : ∀ sp : Nat → Bool, (∀ p ∈ before, sp p.block = true) → DataW.TrodAll enc P W' 0 sp true f.params.toList args.toList (s.fn H (ds ++ gs)).args pa)
  (hvars : ∀ sp : Nat → Bool, (∀ p ∈ before, sp p.block = true) → DataW.TrodVars enc P W' sp s.vars (s.fn H (ds ++ gs)).vars pv)
  (hps : before = pa ++ pv) (hb : Below W.heap.size W W')
  (hok : ∀ (j : Nat) (t : TypeId) (r : Value), f.resultTypes[j]? = some t → (v.resultList f.resultTypes.size)[j]? = some r → Value.okWide P W' .any 0 t r) :
  s.post enc P f apart fresh handsOn again W args v W' := by
 have hlt : ∀ p ∈ before, p.block < W.heap.size := fun p hp => hW.lt p hp
 have hold : ∀ p ∈ before, (fun b => decide (b < W.heap.size)) p.block = true := fun p hp => by simpa using hlt p hp
 refine ⟨ds, gs, before, [], pa, pv, hW, hres _ _ _, hargs _ hold, hvars _ hold, World.keptBut_mono (fun p hp => ⟨hp, ?_⟩) (hb.frame (· ∈ before)), fun _ => ?_⟩
 ·rw [hps, List.mem_append] at hp
  exact Or.inr hp
 ·obtain ⟨_, _, _, _, _, hz, hn⟩ := hW
  refine ⟨hok, _, _, ([] ++ pa) ++ pv, ⟨[] ++ pa, pv, trodAll_append (hargs _ (fun _ _ => rfl)) (hres _ _ _), hvars _ (fun _ _ => rfl), rfl, ?_, ?_⟩, ?_⟩
  ·intro b off hp
   have hin : MemPlace.cell b off ∈ before := by rw [hps]; simpa using hp
   rw [hb.frozen (hlt _ hin)]
   exact hz b off hin
  ·intro ha
   have := hn ha
   rw [hps] at this
   simpa using this
  ·intro p hp _
   rw [hps]
   simpa using hp
end
theorem own : ownKnob Tryz.prog.godebug = none := by kernel_rfl
mutual
/-- the cells of a datum of numbers -/
def dataCells : DataW Unit → List Value
 | .lit (.int k n) => [.int k n]
 | .agg l => dataCellsL l
 | _ => []
def dataCellsL : List (DataW Unit) → List Value
 | [] => []
 | d :: l => dataCells d ++ dataCellsL l
end
def putCells (cs : Array Value) : Obj → Obj
 | .cells _ t frozen => .cells cs t frozen
 | o => o
def tables : List (Nat × DataW Unit) := [(6, Rows.laid_math_bits_deBruijn32tab), (7, Rows.laid_math_bits_deBruijn64tab), (3, Rows.laid_internal_strconv_uint64pow10), (5, Rows.laid_unicode_utf8_acceptRanges), (4, Rows.laid_unicode_utf8_first)]
abbrev txRange : ByteArray := ⟨#[118, 97, 108, 117, 101, 32, 111, 117, 116, 32, 111, 102, 32, 114, 97, 110, 103, 101]⟩
abbrev txSyntax : ByteArray := ⟨#[105, 110, 118, 97, 108, 105, 100, 32, 115, 121, 110, 116, 97, 120]⟩
noncomputable def lowN : Nat := (World.holding Tryz.prog default ⟨#[], #[], []⟩).heap.size
noncomputable def errCells (k : Nat) : Array Value := #[.iface 219 (.pointer (some ⟨lowN + k, 0, none⟩))]
noncomputable def heldWorld (os : Os) : World := World.holding Tryz.prog os ⟨#[.cells #[.string txRange] 221, .cells #[.string txSyntax] 221], #[], []⟩
noncomputable def laidWorld (os : Os) : World :=
 { heldWorld os with heap := ((tables.foldl (fun h x => h.modify x.1 (putCells (dataCells x.2).toArray)) (heldWorld os).heap).modify 2 (putCells (errCells 0))).modify 1 (putCells (errCells 1)) }
def laid7 : List (String × DataW Unit) := [("math/bits.deBruijn32tab", Rows.laid_math_bits_deBruijn32tab), ("math/bits.deBruijn64tab", Rows.laid_math_bits_deBruijn64tab), ("internal/strconv.uint64pow10", Rows.laid_internal_strconv_uint64pow10), ("unicode/utf8.acceptRanges", Rows.laid_unicode_utf8_acceptRanges), ("strconv.ErrRange", Rows.laid_strconv_ErrRange), ("strconv.ErrSyntax", Rows.laid_strconv_ErrSyntax), ("unicode/utf8.first", Rows.laid_unicode_utf8_first)]
theorem int_of_shape {P : Program} {w : World} {g : Nat} {t : TypeId} {zero : Array Value} (h : w.ShapedOpen P) (hg : g < P.globals.size)
  (h0 : ((begin P (fun _ _ => 0) default).world.heap[g]?).bind Obj.row? = some (zero, t)) (hz : zero.size = 1)
  (hb : P.buildable t = true) (hc : P.cellTypes P.depth t = some [t]) (hu : P.underlying t = some (.int .i64)) : ∃ m, w.cell? ⟨g, 0, none⟩ = some (.int .i64 m) := by
 obtain ⟨cs, hh, hs, hr⟩ := h.1 g zero t hg h0
 obtain ⟨ts, hts, _, hall⟩ := hr hb
 rw [hc] at hts
 cases hts
 have h1 : 0 < cs.size := by omega
 obtain ⟨u, hu', hok⟩ := hall 0 cs[0] (by simp [h1])
 have : u = t := by simpa using hu'.symm
 subst this
 have key : ∃ m, cs[0] = .int .i64 m := by
  revert hok
  cases cs[0] <;> simp [Cell.ok, hu]
  exact fun h _ => h
 obtain ⟨m, hm⟩ := key
 exact ⟨m, by simp [World.cell?, hh, h1, hm]⟩
theorem glob_of {W : World} (h : laidMetH Tryz.prog laid7 W) (hs : W.ShapedOpen Tryz.prog) : Glob Tryz.prog W := by
 rw [Go.MakeChecks.laidMetH_plain _ _ _ (by kernel_rfl)] at h
 refine ⟨?_, fun g _ => ?_, fun g hg => ?_⟩
 ·have hx : (((begin Tryz.prog (fun _ _ => 0) default).world.heap[7]?).bind Obj.row?).isSome = true := by kernel_rfl
  obtain ⟨⟨zero, t⟩, h0⟩ := Option.isSome_iff_exists.1 hx
  obtain ⟨cs, h1, _⟩ := hs.1 7 zero t (of_decide_eq_true (by kernel_rfl)) h0
  have h2 := (Array.getElem?_eq_some_iff.1 h1).1
  have h3 : Tryz.prog.globals.size = 8 := by kernel_rfl
  omega
 ·exact Lib.tabIs_of_head (g := 3) (t := 207) (e := 193) (n := 20) (by kernel_rfl) (by kernel_rfl) (by kernel_rfl) (by kernel_rfl) (by kernel_rfl) (by kernel_rfl) h.tail.tail
 ·obtain rfl : g = 0 := (Option.some.inj ((show Tryz.prog.globalNamed "internal/bytealg.MaxLen" = some 0 by kernel_rfl).symm.trans hg)).symm
  exact int_of_shape hs (t := 3) (zero := #[.int .i64 0]) (of_decide_eq_true (by kernel_rfl)) (by kernel_rfl) (by kernel_rfl) (by kernel_rfl) (by kernel_rfl) (by kernel_rfl)
section
variable {H : Type} {enc : TypeId × Value → H} {W : World} {base : Nat} {spare : Nat → Bool} {held : Bool}
set_option maxRecDepth 100000 in
theorem in_src {v : Value} {d : DataW H} {p : List MemPlace} (hval : Value.okWide Tryz.prog W .any base 26 v) (h : DataW.Trod enc Tryz.prog W 0 (fun _ => true) true 26 v d p) (hlt : ∀ x ∈ p, x.block < W.heap.size) : ∃ x : Sr, HasC W (below W) (avS x) v ∧ x.uses.length + nodesD x.decls ≤ Rows.uptoBulk d := by
 obtain ⟨fuel, hf⟩ := h
 obtain ⟨ds, hT, hR, hS⟩ := open_typed plain_ok _ fuel 26 v.cells.toList (d, p) (Nat.le_refl _) (by decide) hf hlt
 obtain ⟨x, rfl, hn⟩ := typed_source hT
 obtain ⟨cs, rfl, _⟩ := okWide_struct Tryz.underlying26 hval
 have hS : sizeL [.sl (encS x.uses), .sl (encDs x.decls)] ≤ Rows.uptoBulk d := hS
 refine ⟨x, ?_, by omega⟩
 have := allR_agg (cs := cs.toList) hR
 simpa [avS] using this
set_option maxRecDepth 100000 in
theorem in_str {v : Value} {d : DataW H} {p : List MemPlace} (hval : Value.okWide Tryz.prog W .any base 9 v) (h : DataW.Trod enc Tryz.prog W 0 (fun _ => true) true 9 v d p) : ∃ s : ByteArray, HasC W (below W) (.d (.raw (.string s))) v ∧ s.size ≤ Rows.uptoBulk d := by
 obtain ⟨fuel, hf⟩ := h
 obtain ⟨s, hc, hd, _⟩ := DataW.trod_string Tryz.underlying9 hf
 have hv : v = .string s := by
  obtain ⟨s', rfl⟩ := okWide_string Tryz.underlying9 hval
  simpa [Value.cells] using hc
 subst hv
 refine ⟨s, .d (.raw _), ?_⟩
 have : d = .lit (.string s.data.toList) := congrArg Prod.fst hd
 subst this
 have : s.data.toList.length = s.size := rfl
 simp only [Rows.uptoBulk]
 omega
set_option maxRecDepth 100000 in
theorem in_u8s {v : Value} {d : DataW H} {p : List MemPlace} (hval : Value.okWide Tryz.prog W .any base 51 v) (h : DataW.Trod enc Tryz.prog W 0 (fun _ => true) true 51 v d p) (hlt : ∀ x ∈ p, x.block < W.heap.size) : ∃ t : List UInt8, HasC W (below W) (.d (.sl (encU8 t))) v ∧ t.length ≤ Rows.uptoBulk d := by
 obtain ⟨fuel, hf⟩ := h
 obtain ⟨ds, hT, hR, hS⟩ := open_typed plain_okR _ fuel 51 v.cells.toList (d, p) (Nat.le_refl _) (by decide) hf hlt
 obtain ⟨t, rfl, hn⟩ := typed_u8s hT
 obtain ⟨a, len, cap, rfl⟩ := okWide_slice Tryz.underlying51 hval
 have hS : sizeL [.sl (encU8 t)] ≤ Rows.uptoBulk d := hS
 exact ⟨t, allR_one hR, by omega⟩
end
theorem law_calls {f : FuncId} {args : List AV} {vs : List Value} {W : World} (hc : Con Tryz.prog f args (.d (.raw (.bool true)))) (hg : Glob Tryz.prog W) (hl : args.length = vs.length) (hv : ∀ i (hi : i < args.length) (hv : i < vs.length), HasC W (below W) args[i] vs[i]) :
  Calls Tryz.prog f vs.toArray W fun e W' => e = .returned (.bool true) ∧ Below W.heap.size W W' := by
 refine (hc.2.2 (below W) W vs (fun _ _ h => h) hg hl hv).mono ?_
 rintro e w' ⟨v, rfl, hv, hb⟩
 exact ⟨by rw [hv.raw_eq], hb⟩
end Go.Proofs.YtnnolijagpakiaaGreatDoor
