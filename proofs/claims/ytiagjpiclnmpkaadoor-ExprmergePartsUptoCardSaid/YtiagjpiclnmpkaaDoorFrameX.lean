/- What every law's row of this seat asks: a world for the witness in which the two tables of Go's library that the rows list hold what they hold; the last step of a row where nothing that lay has turned. An expression that came in: read as plain data, with no more nodes than its bulk. The first two theorems are the kit's own lemmas to copy (how-to-prove-an-upto-statement). -/
import Derived.Test.YtiagjpiclnmpkaaDoorCards
import Derived.Test.YtiagjpiclnmpkaaDoorTie
import Derived.WalkKit
import Derived.ProofKit
import Derived.OpenShut
import Derived.Deep.DeepHandedRow
import Derived.Lib.LaidTab
import Derived.Below
import Derived.ChangeSame
import Derived.Test.YtiagjpiclnmpkaaDoorLaw32
import Derived.Deep.Slices
import Derived.Deep.Fields
import Derived.Carry
namespace Go.Proofs.YtiagjpiclnmpkaaDoor
open Go.ChangeShapes Go.WideShapes Go.ChangeAt Go.RowKit

section
variable {H : Type} {enc : TypeId × Value → H} {P : Program}
theorem post_of_below {f : Func} {s : ChangeSpec} {apart fresh handsOn again : Bool} {W W' : World} {args : Array Value} {v : Value} {ds gs : List (DataW H)} {before pa pv : List MemPlace}
    (hW : DataW.Whole enc P f.params.toList s.vars apart W args.toList ds gs before)
    (hres : ∀ (b : Nat) (sp : Nat → Bool) (hd : Bool), DataW.TrodAll enc P W' b sp hd f.resultTypes.toList (v.resultList f.resultTypes.size) (s.fn H (ds ++ gs)).results [])
    (hargs : ∀ sp : Nat → Bool, (∀ p ∈ before, sp p.block = true) → DataW.TrodAll enc P W' 0 sp true f.params.toList args.toList (s.fn H (ds ++ gs)).args pa)
    (hvars : ∀ sp : Nat → Bool, (∀ p ∈ before, sp p.block = true) → DataW.TrodVars enc P W' sp s.vars (s.fn H (ds ++ gs)).vars pv)
    (hps : before = pa ++ pv) (hb : Below W.heap.size W W')
    (hok : ∀ (j : Nat) (t : TypeId) (r : Value), f.resultTypes[j]? = some t → (v.resultList f.resultTypes.size)[j]? = some r → Value.okWide P W' .any 0 t r) :
    s.post enc P f apart fresh handsOn again W args v W' := by
  have hlt : ∀ p ∈ before, p.block < W.heap.size := fun p hp => hW.lt p hp
  have hold : ∀ p ∈ before, (fun b => decide (b < W.heap.size)) p.block = true := fun p hp => by simpa using hlt p hp
  refine ⟨ds, gs, before, [], pa, pv, hW, hres _ _ _, hargs _ hold, hvars _ hold, World.keptBut_mono (fun p hp => ⟨hp, ?_⟩) (hb.frame (· ∈ before)), fun _ => ?_⟩
  · rw [hps, List.mem_append] at hp
    exact Or.inr hp
  · obtain ⟨_, _, _, _, _, hz, hn⟩ := hW
    refine ⟨hok, _, _, ([] ++ pa) ++ pv, ⟨[] ++ pa, pv, trodAll_append (hargs _ (fun _ _ => rfl)) (hres _ _ _), hvars _ (fun _ _ => rfl), rfl, ?_, ?_⟩, ?_⟩
    · intro b off hp
      have hin : MemPlace.cell b off ∈ before := by rw [hps]; simpa using hp
      rw [hb.frozen (hlt _ hin)]
      exact hz b off hin
    · intro ha
      have := hn ha
      rw [hps] at this
      simpa using this
    · intro p hp _
      rw [hps]
      simpa using hp
end

theorem own : ownKnob Tryd.prog.godebug = none := by kernel_rfl
def acceptCells : Array Value := #[.int .u8 128, .int .u8 191, .int .u8 160, .int .u8 191, .int .u8 128, .int .u8 159, .int .u8 144, .int .u8 191, .int .u8 128, .int .u8 143, .int .u8 0, .int .u8 0, .int .u8 0, .int .u8 0, .int .u8 0, .int .u8 0, .int .u8 0, .int .u8 0, .int .u8 0, .int .u8 0, .int .u8 0, .int .u8 0, .int .u8 0, .int .u8 0, .int .u8 0, .int .u8 0, .int .u8 0, .int .u8 0, .int .u8 0, .int .u8 0, .int .u8 0, .int .u8 0]
def firstCells : Array Value := (Go.Pinned.utf8FirstZ.map fun n : Nat => Value.int .u8 n).toArray
def putCells (cs : Array Value) : Obj → Obj
  | .cells _ t frozen => .cells cs t frozen
  | o => o
/-- A WORLD FOR THE WITNESS: the settled one, the two tables holding what their initialisers lay. -/
noncomputable def laidWorld (os : Os) : World :=
  { World.holding Tryd.prog os ⟨#[], #[], []⟩ with heap := ((World.holding Tryd.prog os ⟨#[], #[], []⟩).heap.modify 1 (putCells firstCells)).modify 2 (putCells acceptCells) }
end Go.Proofs.YtiagjpiclnmpkaaDoor

namespace Go.Proofs.YtiagjpiclnmpkaaDoor
open Go.ChangeShapes Go.WideShapes Go.Deep

theorem bulk_one {H : Type} (d : DataW H) : 1 ≤ Rows.uptoBulk d := by
  cases d with
  | lit l => cases l <;> simp [Rows.uptoBulk]
  | nil => simp [Rows.uptoBulk]
  | ptr d => simp [Rows.uptoBulk]
  | slice elems spare => simp [Rows.uptoBulk]
  | agg parts => simp [Rows.uptoBulk]
  | iface t d => simp [Rows.uptoBulk]
  | map entries => simp [Rows.uptoBulk]
  | held h => simp [Rows.uptoBulk]
theorem bulk_part {H : Type} {d : DataW H} {l : List (DataW H)} (h : d ∈ l) : Rows.uptoBulk d ≤ Rows.uptoBulkAll l := by
  induction l with
  | nil => cases h
  | cons x r ih =>
    simp only [Rows.uptoBulkAll]
    cases List.mem_cons.1 h with
    | inl e => subst e; omega
    | inr e => have := ih e; omega
theorem bulk_nodes {H : Type} (f : Nat → Ex) (D : Nat → DataW H) : ∀ l : List Nat, (∀ i ∈ l, nodesE (f i) ≤ Rows.uptoBulk (D i)) → nodesL (l.map f) ≤ Rows.uptoBulkAll (l.map D)
  | [], _ => by simp [nodesL]
  | a :: r, h => by
    have h1 := h a (by simp)
    have h2 := bulk_nodes f D r (fun i hi => h i (by simp [hi]))
    simp only [List.map_cons, nodesL, Rows.uptoBulkAll]; omega
section
variable {H : Type} {enc : TypeId × Value → H} {W : World} {base : Nat} {spare : Nat → Bool} {held : Bool}
theorem cellsEx : Tryd.prog.cellsOf 24 = 6 := by kernel_rfl
theorem cellsExInt : Tryd.prog.cellsOf 3 = 1 := by kernel_rfl
theorem cellsExStr : Tryd.prog.cellsOf 9 = 1 := by kernel_rfl
theorem cellsExSub : Tryd.prog.cellsOf 22 = 1 := by kernel_rfl
theorem six {cs : List Value} (h : cs.length = 6) : ∃ c0 c1 c2 c3 c4 c5, cs = [c0, c1, c2, c3, c4, c5] := by
  match cs, h with
  | [c0, c1, c2, c3, c4, c5], _ => exact ⟨c0, c1, c2, c3, c4, c5, rfl⟩
theorem six' {α : Type} {cs : List α} (h : cs.length = 6) : ∃ c0 c1 c2 c3 c4 c5, cs = [c0, c1, c2, c3, c4, c5] := by
  match cs, h with
  | [c0, c1, c2, c3, c4, c5], _ => exact ⟨c0, c1, c2, c3, c4, c5, rfl⟩
/-- the element i of a row that came in -/
def NodeAt' (W : World) (a : Addr) (i : Nat) (t : Ex) : Prop := ∃ xv : XV, (∀ j v, xv.arr.toList[j]? = some v → W.cell? ((a.add (i * 6)).add j) = some v) ∧ XAt W t xv
theorem open_ex (N : Nat) : ∀ (fuel : Nat) (cs : List Value) (x : DataW H × List MemPlace), Rows.uptoBulk x.1 ≤ N → DataW.trod enc Tryd.prog W base spare held fuel 24 cs = some x → (∀ p ∈ x.2, p.block < W.heap.size) →
    ∃ (t : Ex) (xv : XV), cs = xv.arr.toList ∧ XAt W t xv ∧ nodesE t ≤ Rows.uptoBulk x.1 := by
  induction N with
  | zero => intro fuel cs x hN; have := bulk_one x.1; omega
  | succ N ih =>
    intro fuel cs x hN h hlt
    obtain ⟨xs, n, _, hx, hlen, hxl, hf⟩ := DataW.trod_struct Tryd.underlying24 h
    rw [cellsEx] at hlen
    obtain ⟨c0, c1, c2, c3, c4, c5, rfl⟩ := six hlen
    obtain ⟨y0, y1, y2, y3, y4, y5, rfl⟩ := six' hxl
    have t0 : DataW.trod enc Tryd.prog W base spare held n 3 (([c0, c1, c2, c3, c4, c5].drop 0).take (Tryd.prog.cellsOf 3)) = some y0 := hf 0 _ rfl
    rw [cellsExInt] at t0
    replace t0 : DataW.trod enc Tryd.prog W base spare held n 3 [c0] = some y0 := t0
    have t1 : DataW.trod enc Tryd.prog W base spare held n 9 (([c0, c1, c2, c3, c4, c5].drop 1).take (Tryd.prog.cellsOf 9)) = some y1 := hf 1 _ rfl
    rw [cellsExStr] at t1
    replace t1 : DataW.trod enc Tryd.prog W base spare held n 9 [c1] = some y1 := t1
    have t2 : DataW.trod enc Tryd.prog W base spare held n 9 (([c0, c1, c2, c3, c4, c5].drop 2).take (Tryd.prog.cellsOf 9)) = some y2 := hf 2 _ rfl
    rw [cellsExStr] at t2
    replace t2 : DataW.trod enc Tryd.prog W base spare held n 9 [c2] = some y2 := t2
    have t3 : DataW.trod enc Tryd.prog W base spare held n 3 (([c0, c1, c2, c3, c4, c5].drop 3).take (Tryd.prog.cellsOf 3)) = some y3 := hf 3 _ rfl
    rw [cellsExInt] at t3
    replace t3 : DataW.trod enc Tryd.prog W base spare held n 3 [c3] = some y3 := t3
    have t4 : DataW.trod enc Tryd.prog W base spare held n 3 (([c0, c1, c2, c3, c4, c5].drop 4).take (Tryd.prog.cellsOf 3)) = some y4 := hf 4 _ rfl
    rw [cellsExInt] at t4
    replace t4 : DataW.trod enc Tryd.prog W base spare held n 3 [c4] = some y4 := t4
    have t5 : DataW.trod enc Tryd.prog W base spare held n 22 (([c0, c1, c2, c3, c4, c5].drop 5).take (Tryd.prog.cellsOf 22)) = some y5 := hf 5 _ rfl
    rw [cellsExSub] at t5
    replace t5 : DataW.trod enc Tryd.prog W base spare held n 22 [c5] = some y5 := t5
    obtain ⟨k, e0, _, _⟩ := DataW.trod_int Tryd.underlying3 t0
    obtain ⟨nm, e1, _, _⟩ := DataW.trod_string Tryd.underlying9 t1
    obtain ⟨mr, e2, _, _⟩ := DataW.trod_string Tryd.underlying9 t2
    obtain ⟨it, e3, _, _⟩ := DataW.trod_int Tryd.underlying3 t3
    obtain ⟨d, e4, _, _⟩ := DataW.trod_int Tryd.underlying3 t4
    simp only [List.cons.injEq, and_true] at e0 e1 e2 e3 e4
    subst e0 e1 e2 e3 e4 hx
    have hbx : Rows.uptoBulk y5.1 + 1 ≤ N + 1 := by
      have := bulk_part (d := y5.1) (l := [y0.1, y1.1, y2.1, y3.1, y4.1, y5.1]) (by simp)
      simp only [List.map_cons, List.map_nil, Rows.uptoBulk] at hN
      omega
    have hbb : Rows.uptoBulk y5.1 + 1 ≤ Rows.uptoBulk (DataW.agg ([y0, y1, y2, y3, y4, y5].map (·.1))) := by
      have := bulk_part (d := y5.1) (l := [y0.1, y1.1, y2.1, y3.1, y4.1, y5.1]) (by simp)
      simp only [List.map_cons, List.map_nil, Rows.uptoBulk]
      omega
    have hlt5 : ∀ p ∈ y5.2, p.block < W.heap.size := fun p hp => hlt p (by simp [hp])
    rcases open_slice Tryd.underlying22 t5 with ⟨e5, rfl⟩ | ⟨a, len, cap, m, n', D, Pl, e5, _, hlc, hcm, hm, rfl, hi⟩
    · simp only [List.cons.injEq, and_true] at e5
      subst e5
      refine ⟨.mk k nm mr it d [], ⟨k, nm, mr, it, d, none, 0, 0⟩, rfl, exAt_iff.2 ⟨_, rfl, subAt_none _ _⟩, ?_⟩
      have : nodesE (.mk k nm mr it d []) = 1 := by simp [nodesE, nodesL]
      rw [this]; exact bulk_one _
    · simp only [List.cons.injEq, and_true] at e5
      subst e5
      have hlm : len ≤ m := by rw [hm]; split <;> omega
      have hbs : Rows.uptoBulkAll ((List.range len).map D) + 1 ≤ Rows.uptoBulk (DataW.slice ((List.range len).map D) ((List.range (m - len)).map fun j => D (len + j))) := by simp only [Rows.uptoBulk]; omega
      have hbx' : Rows.uptoBulk (DataW.slice ((List.range len).map D) ((List.range (m - len)).map fun j => D (len + j))) + 1 ≤ N + 1 := hbx
      have hbb' : Rows.uptoBulk (DataW.slice ((List.range len).map D) ((List.range (m - len)).map fun j => D (len + j))) + 1 ≤ _ := hbb
      have ex : ∀ i, ∃ t : Ex, i < len → NodeAt' W a i t ∧ nodesE t ≤ Rows.uptoBulk (D i) := by
        intro i
        by_cases hil : i < len
        · obtain ⟨cs', hc, ht⟩ := hi i (by omega)
          have hbi := bulk_part (d := D i) (l := (List.range len).map D) (List.mem_map.2 ⟨i, List.mem_range.2 hil, rfl⟩)
          obtain ⟨t, xv, hcs, hX, hn⟩ := ih n' cs' (D i, Pl i) (by show Rows.uptoBulk (D i) ≤ N; omega) ht (fun p hp => hlt5 p (by
            refine List.mem_append.2 (.inr (List.mem_flatMap.2 ⟨i, List.mem_range.2 (by omega), hp⟩))))
          refine ⟨t, fun _ => ⟨⟨xv, ?_, hX⟩, hn⟩⟩
          rw [cellsEx] at hc
          obtain ⟨_, _, hat⟩ := World.cells?_some hc
          intro j v hv
          rw [hat j (by
            have := (List.getElem?_eq_some_iff.1 hv).1
            simpa using this), hcs]
          exact hv
        · exact ⟨.mk 0 ⟨#[]⟩ ⟨#[]⟩ 0 0 [], fun h => absurd h hil⟩
      obtain ⟨f, hfun⟩ := Classical.axiomOfChoice ex
      have hnl := bulk_nodes f D (List.range len) (fun i hi => (hfun i (List.mem_range.1 hi)).2)
      refine ⟨.mk k nm mr it d ((List.range len).map f), ⟨k, nm, mr, it, d, some a, len, cap⟩, rfl, exAt_iff.2 ⟨.slice (some a) len cap, rfl, some a, cap, by simp [Ex.sub], by simpa [Ex.sub] using hlc, fun hp => ?_⟩, ?_⟩
      · have hp' : 0 < len := by simpa [Ex.sub] using hp
        obtain ⟨⟨xv0, hc0, _⟩, _⟩ := hfun 0 hp'
        have hc00 := hc0 0 _ rfl
        obtain ⟨b, off, spot⟩ := a
        have hspot : spot = none := by simpa [Addr.add] using World.cell?_spot hc00
        subst hspot
        refine ⟨b, off, rfl, ?_, row_mk fun i hi => ?_⟩
        · have : MemPlace.cell b (off + 0) ∈ MemPlace.row ⟨b, off, none⟩ (m * Tryd.prog.cellsOf 24) ++ (List.range m).flatMap Pl := by
            refine List.mem_append.2 (.inl ?_)
            unfold MemPlace.row
            exact List.mem_map.2 ⟨0, List.mem_range.2 (by rw [cellsEx]; omega), rfl⟩
          exact hlt5 _ this
        · have hi' : i < len := by simpa [Ex.sub] using hi
          obtain ⟨⟨xv, hc, hX⟩, _⟩ := hfun i hi'
          obtain ⟨ev, hsub⟩ := xAt_sub hX
          rw [ev] at hc
          have g : ∀ j v, (XV.arr ⟨(f i).kind, (f i).name, (f i).more, (f i).int, (f i).den, xv.p, (f i).sub.length, xv.c⟩).toList[j]? = some v → W.cell? ⟨b, off + i * 6 + j, none⟩ = some v := fun j v hv => by
            have := hc j v hv
            rw [Go.WideShapes.add_plain, Go.WideShapes.add_plain] at this
            exact this
          have hnode : NodeAt W W.heap.size b (off + i * 6) (f i) := ⟨_, g 0 _ rfl, g 1 _ rfl, g 2 _ rfl, g 3 _ rfl, g 4 _ rfl, g 5 _ rfl, hsub⟩
          have e : ((List.range len).map f)[i]'(by simpa using hi') = f i := by simp
          rw [← e] at hnode
          exact hnode
      · have h9 : nodesE (.mk k nm mr it d ((List.range len).map f)) = nodesL ((List.range len).map f) + 1 := by simp [nodesE]
        refine Nat.le_trans ?_ hbb'
        rw [h9]
        omega
end
end Go.Proofs.YtiagjpiclnmpkaaDoor
