/- Slices of tokens in memory, as lists of tokens. -/
import Derived.Test.YtckkfenchjgfhaaDoorLexL
namespace Go.Proofs.YtckkfenchjgfhaaDoor
open Go.RowKit

/-- the cells of one token -/
def TokAt (w : World) (b o : Nat) (t : Tok) : Prop := w.cell? ⟨b, o, none⟩ = some (.int .i64 t.kind) ∧ w.cell? ⟨b, o + 1, none⟩ = some (.string ⟨t.text.toArray⟩) ∧ w.cell? ⟨b, o + 2, none⟩ = some (.int .i64 t.pos)
/-- a slice value reads as a list of tokens -/
def ToksAt (w : World) (v : Value) (ts : List Tok) : Prop :=
  ∃ (A : Option Addr) (c : Nat), v = .slice A ts.length c ∧ ts.length ≤ c ∧ (0 < ts.length → ∃ b off, A = some ⟨b, off, none⟩ ∧ b < w.heap.size ∧ ∀ k (h : k < ts.length), TokAt w b (off + k * 3) ts[k])
theorem TokAt.below {w w' : World} {b o : Nat} {t : Tok} (h : TokAt w b o t) (hb : Below w.heap.size w w') (hlt : b < w.heap.size) : TokAt w' b o t :=
  ⟨(hb.cell (p := ⟨b, o, none⟩) hlt).trans h.1, (hb.cell (p := ⟨b, o + 1, none⟩) hlt).trans h.2.1, (hb.cell (p := ⟨b, o + 2, none⟩) hlt).trans h.2.2⟩
theorem ToksAt.below {w w' : World} {v : Value} {ts : List Tok} (h : ToksAt w v ts) (hb : Below w.heap.size w w') : ToksAt w' v ts := by
  obtain ⟨A, c, h1, h2, h3⟩ := h
  refine ⟨A, c, h1, h2, fun hp => ?_⟩
  obtain ⟨b, off, e, hlt, hc⟩ := h3 hp
  exact ⟨b, off, e, Nat.lt_of_lt_of_le hlt hb.size, fun k hk => (hc k hk).below hb hlt⟩
theorem ToksAt.drewN {w : World} {v : Value} {ts : List Tok} (h : ToksAt w v ts) (n : Nat) : ToksAt (w.drewN n) v ts := h
theorem toksCells_len (ts : List Tok) : (toksCells ts).length = ts.length * 3 := by
  induction ts with
  | nil => rfl
  | cons t ts ih => simp only [toksCells, List.flatMap_cons, List.length_append, List.length_cons] at ih ⊢; rw [ih]; simp [tokCells]; omega
theorem toksCells_get : ∀ (ts : List Tok) (k : Nat) (h : k < ts.length), (toksCells ts)[k * 3]? = some (.int .i64 ts[k].kind) ∧ (toksCells ts)[k * 3 + 1]? = some (.string ⟨ts[k].text.toArray⟩) ∧ (toksCells ts)[k * 3 + 2]? = some (.int .i64 ts[k].pos)
  | [], k, h => by simp at h
  | t :: ts, 0, _ => ⟨rfl, rfl, rfl⟩
  | t :: ts, k + 1, h => by
    have := toksCells_get ts k (by simpa using h)
    have e : ∀ j, (toksCells (t :: ts))[(k + 1) * 3 + j]? = (toksCells ts)[k * 3 + j]? := fun j => by
      show (tokCells t ++ toksCells ts)[(k + 1) * 3 + j]? = _
      rw [List.getElem?_append_right (by simp [tokCells]; omega)]
      congr 1
      simp [tokCells]; omega
    exact ⟨(e 0).trans this.1, (e 1).trans this.2.1, (e 2).trans this.2.2⟩
theorem toks_of_owns {w : World} {base : Nat} {v : Value} {ts : List Tok} (h : w.ownsRow base 35 3 v ts.length (toksCells ts)) : ToksAt w v ts := by
  obtain ⟨_, h2⟩ := id h
  rcases h2 with ⟨rfl, h0⟩ | ⟨g, cap, cur, rfl, _, hg, hn, _, _, _⟩
  · exact ⟨none, 0, by rw [h0], by omega, fun hp => by omega⟩
  · refine ⟨some ⟨g, 0, none⟩, cap, rfl, hn, fun hp => ⟨g, 0, rfl, (Array.getElem?_eq_some_iff.1 hg).1, fun k hk => ?_⟩⟩
    have hc := fun j hj => h.cellAt j hj
    have hg := toksCells_get ts k hk
    refine ⟨?_, ?_, ?_⟩
    · rw [Nat.zero_add]; exact (hc _ (by omega)).trans hg.1
    · rw [Nat.zero_add]; exact (hc _ (by omega)).trans hg.2.1
    · rw [Nat.zero_add]; exact (hc _ (by omega)).trans hg.2.2
end Go.Proofs.YtckkfenchjgfhaaDoor
