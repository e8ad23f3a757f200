/- A slice of tokens that came in, as a list of tokens. The first theorem is the kit's own lemma to copy (extra-structs). -/
import Derived.Test.YtckkfenchjgfhaaDoorFrame
import Derived.Test.YtckkfenchjgfhaaDoorToks
import Derived.Deep.Slices
import Derived.Deep.Fields
import Derived.Carry
namespace Go.Proofs.YtckkfenchjgfhaaDoor
open Go.ChangeShapes Go.WideShapes Go.Deep

section
variable {H : Type} {enc : TypeId × Value → H} {P : Program} {w : World} {base : Nat} {spare : Nat → Bool} {held : Bool}
theorem open_slice_fields {t e : TypeId} {fs : Array Field} {fuel : Nat} {cs : List Value} {x : DataW H × List MemPlace} (ht : P.underlying t = some (.slice e)) (he : P.underlying e = some (.struct fs))
    (hone : oneCellFields P fs = true) (hC : P.cellsOf e = fs.size) (h : DataW.trod enc P w base spare held fuel t cs = some x) :
    (cs = [.slice none 0 0] ∧ x = (.nil, [])) ∨
    ∃ (a : Addr) (len cap m : Nat) (D : Nat → DataW H) (Pl : Nat → List MemPlace), cs = [.slice (some a) len cap] ∧ base ≤ a.block ∧ len ≤ cap ∧ cap ≤ maxLen ∧ m = (if spare a.block then cap else len) ∧
      x = (.slice ((List.range len).map D) ((List.range (m - len)).map fun j => D (len + j)), MemPlace.row a (m * fs.size) ++ (List.range m).flatMap Pl) ∧
      ∀ i, i < m → ∃ (ys : List (DataW H × List MemPlace)) (n : Nat), D i = .agg (ys.map (·.1)) ∧ Pl i = ys.flatMap (·.2) ∧ ys.length = fs.size ∧
        ∀ (j : Nat) (f : Field), fs[j]? = some f → ∃ (v : Value) (y : DataW H × List MemPlace), w.cell? (a.add (i * fs.size + j)) = some v ∧ ys[j]? = some y ∧ DataW.trod enc P w base spare held n f.type [v] = some y := by
  rcases open_slice ht h with h0 | ⟨a, len, cap, m, n, D, Pl, hcs, hb, hl, hm, hmm, hx, hi⟩
  · exact .inl h0
  · refine .inr ⟨a, len, cap, m, D, Pl, hcs, hb, hl, hm, hmm, by rw [hC] at hx; exact hx, fun i him => ?_⟩
    obtain ⟨cs', hc, ht'⟩ := hi i him
    rw [hC] at hc
    obtain ⟨ys, n', hn', hy, hlen, hyl, hf⟩ := DataW.trod_struct he ht'
    obtain ⟨_, hcl, hat⟩ := World.cells?_some hc
    simp only [Prod.mk.injEq] at hy
    refine ⟨ys, n', hy.1, hy.2, hyl, fun j f hj => ?_⟩
    obtain ⟨ho, hk⟩ := hone_of hone j f hj
    have hjl : j < fs.size := (Array.getElem?_eq_some_iff.1 hj).1
    have hcell := hat j hjl
    have hv : cs'[j]? = some (cs'[j]'(by omega)) := List.getElem?_eq_getElem (by omega)
    have h1 := hf j f hj
    rw [ho, hk] at h1
    have hone' : (cs'.drop j).take 1 = [cs'[j]'(by omega)] := by
      rw [List.drop_eq_getElem_cons (by omega)]
      rfl
    rw [hone'] at h1
    have hys : ys[j]? = some (ys[j]'(by omega)) := List.getElem?_eq_getElem (by omega)
    refine ⟨_, _, ?_, hys, h1.trans hys⟩
    rw [← Go.Deep.add_add, hcell, hv]
end

section
variable {H : Type} {enc : TypeId × Value → H} {W : World} {base : Nat} {spare : Nat → Bool} {held : Bool}
theorem cellsTok : Tryd.prog.cellsOf 35 = 3 := by kernel_rfl
theorem oneTok : oneCellFields Tryd.prog #[{ name := "Kind", type := 3, offset := 0, embedded := false, tag := "", pkgPath := "", byteOffset := 0 }, { name := "Text", type := 9, offset := 1, embedded := false, tag := "", pkgPath := "", byteOffset := 8 }, { name := "At", type := 3, offset := 2, embedded := false, tag := "", pkgPath := "", byteOffset := 24 }] = true := by kernel_rfl
theorem open_toks {fuel : Nat} {v : Value} {x : DataW H × List MemPlace} (h : DataW.trod enc Tryd.prog W base spare held fuel 24 [v] = some x) (hlt : ∀ p ∈ x.2, p.block < W.heap.size) :
    ∃ ts : List Tok, ToksAt W v ts := by
  rcases open_slice_fields Tryd.underlying24 Tryd.underlying35 oneTok cellsTok h with ⟨h1, _⟩ | ⟨a, len, cap, m, D, Pl, h1, _, hlc, _, hm, hx, hf⟩
  · obtain rfl : v = .slice none 0 0 := by simpa using h1
    exact ⟨[], none, 0, rfl, by simp, fun h => by simp at h⟩
  · obtain rfl : v = .slice (some a) len cap := by simpa using h1
    have hlm : len ≤ m := by rw [hm]; split <;> omega
    have ex : ∀ i, ∃ t : Tok, i < len → W.cell? (a.add (i * 3 + 0)) = some (.int .i64 t.kind) ∧ W.cell? (a.add (i * 3 + 1)) = some (.string ⟨t.text.toArray⟩) ∧ W.cell? (a.add (i * 3 + 2)) = some (.int .i64 t.pos) := by
      intro i
      by_cases hi : i < len
      · obtain ⟨ys, n, _, _, _, hg⟩ := hf i (by omega)
        obtain ⟨v0, y0, c0, _, t0⟩ := hg 0 _ rfl
        obtain ⟨v1, y1, c1, _, t1⟩ := hg 1 _ rfl
        obtain ⟨v2, y2, c2, _, t2⟩ := hg 2 _ rfl
        obtain ⟨k, e0, _, _⟩ := DataW.trod_int Tryd.underlying3 t0
        obtain ⟨t, e1, _, _⟩ := DataW.trod_string Tryd.underlying9 t1
        obtain ⟨q, e2, _, _⟩ := DataW.trod_int Tryd.underlying3 t2
        simp only [List.cons.injEq, and_true] at e0 e1 e2
        subst e0 e1 e2
        refine ⟨⟨k, t.data.toList, q⟩, fun _ => ⟨c0, ?_, c2⟩⟩
        show _ = some (Value.string ⟨t.data.toList.toArray⟩)
        rw [show (⟨t.data.toList.toArray⟩ : ByteArray) = t by simp]
        exact c1
      · exact ⟨⟨0, [], 0⟩, fun h => absurd h hi⟩
    obtain ⟨f, hfun⟩ := Classical.axiomOfChoice ex
    refine ⟨(List.range len).map f, some a, cap, by simp, by simpa using hlc, fun hp => ?_⟩
    have hp' : 0 < len := by simpa using hp
    obtain ⟨b, off, spot⟩ := a
    have hspot : spot = none := by simpa [Addr.add] using World.cell?_spot (hfun 0 hp').1
    subst hspot
    refine ⟨b, off, rfl, ?_, fun k hk => ?_⟩
    · have : MemPlace.cell b (off + 0) ∈ x.2 := by
        rw [hx]
        refine List.mem_append.2 (.inl ?_)
        unfold MemPlace.row
        exact List.mem_map.2 ⟨0, List.mem_range.2 (by show 0 < m * 3; omega), rfl⟩
      exact hlt _ this
    · have hk' : k < len := by simpa using hk
      obtain ⟨g0, g1, g2⟩ := hfun k hk'
      rw [Go.WideShapes.add_plain] at g0 g1 g2
      simp only [List.getElem_map, List.getElem_range]
      exact ⟨g0, g1, g2⟩
end
end Go.Proofs.YtckkfenchjgfhaaDoor
