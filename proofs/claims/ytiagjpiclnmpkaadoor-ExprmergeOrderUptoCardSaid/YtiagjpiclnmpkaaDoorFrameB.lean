/- A slice of bytes that comes in, as a tree of cells. -/
import Derived.Test.YtiagjpiclnmpkaaDoorFrameX
import Derived.Test.YtiagjpiclnmpkaaDoorGSa
namespace Go.Proofs.YtiagjpiclnmpkaaDoor
open Go.ChangeShapes Go.WideShapes Go.Deep Go.RowKit
def encB (l : List Nat) : List (List D) := l.map fun (b : Nat) => [.raw (.int .u8 (b : Int))]
theorem encB_length (l : List Nat) : (encB l).length = l.length := by simp [encB]
theorem encB_at (l : List Nat) (i : Nat) (h : i < l.length) : (encB l).getD i [] = [.raw (.int .u8 l[i])] := by
  simp [encB, List.getD_eq_getElem?_getD, h]
variable {H : Type} {enc : TypeId × Value → H} {W : World} {base : Nat} {spare : Nat → Bool} {held : Bool}
theorem bulk_len {H : Type} : ∀ l : List (DataW H), l.length ≤ Rows.uptoBulkAll l
  | [] => by simp
  | d :: l => by
    have h1 := bulk_one d
    have h2 := bulk_len l
    simp only [List.length_cons, Rows.uptoBulkAll]; omega
theorem cells_u8 : Tryd.prog.cellsOf 5 = 1 := by kernel_rfl
theorem open_bytes {fuel : Nat} {cs : List Value} {x : DataW H × List MemPlace} (h : DataW.trod enc Tryd.prog W base spare held fuel 44 cs = some x) (hlt : ∀ p ∈ x.2, p.block < W.heap.size) :
    ∃ (l : List Nat) (v : Value), cs = [v] ∧ HasC W (fun b _ => b < W.heap.size) (.d (.sl (encB l))) v ∧ (∀ b ∈ l, b < 256) ∧ l.length ≤ Rows.uptoBulk x.1 := by
  rcases open_slice Tryd.underlying44 h with ⟨e5, rfl⟩ | ⟨a, len, cap, m, n', D, Pl, e5, _, hlc, hcm, hm, rfl, hi⟩
  · exact ⟨[], _, e5, .d (.nil _ _), (fun b hb => by cases hb), Nat.zero_le _⟩
  · have hlm : len ≤ m := by rw [hm]; split <;> omega
    have ex : ∀ i, ∃ b : Nat, i < len → W.cell? (a.add i) = some (.int .u8 b) ∧ b < 256 := by
      intro i
      by_cases hil : i < len
      · obtain ⟨cs', hc, ht⟩ := hi i (by omega)
        obtain ⟨n, rfl, _, hw⟩ := DataW.trod_int Tryd.underlying5 ht
        rw [cells_u8, Nat.mul_one] at hc
        obtain ⟨_, _, hat⟩ := World.cells?_some hc
        have h0 := hat 0 (by omega)
        have hw' : (0 : Int) ≤ n ∧ n ≤ 255 := by
          simp only [Lit.wf, Bool.and_eq_true, decide_eq_true_eq] at hw
          exact hw
        refine ⟨n.toNat, fun _ => ⟨?_, by omega⟩⟩
        rw [show ((n.toNat : Nat) : Int) = n by omega]
        simpa [Addr.add] using h0
      · exact ⟨0, fun h => absurd h hil⟩
    obtain ⟨f, hf⟩ := Classical.axiomOfChoice ex
    refine ⟨(List.range len).map f, _, e5, ?_, fun b hb => ?_, ?_⟩
    · by_cases hp : 0 < len
      · obtain ⟨b, off, spot⟩ := a
        have hspot : spot = none := by simpa [Addr.add] using World.cell?_spot (hf 0 hp).1
        subst hspot
        have hblt : b < W.heap.size := by
          have : MemPlace.cell b (off + 0) ∈ MemPlace.row ⟨b, off, none⟩ (m * Tryd.prog.cellsOf 5) ++ (List.range m).flatMap Pl := by
            refine List.mem_append.2 (.inl ?_)
            unfold MemPlace.row
            exact List.mem_map.2 ⟨0, List.mem_range.2 (by rw [cells_u8]; omega), rfl⟩
          exact hlt _ this
        have hlen : (encB ((List.range len).map f)).length = len := by simp [encB]
        have hr : Reads W (fun b _ => b < W.heap.size) (.sl (encB ((List.range len).map f))) (.slice (some ⟨b, off, none⟩) (encB ((List.range len).map f)).length cap) := by
          refine Reads.mk (st := 1) (by omega) (fun i hi => by simp [encB]) fun i hi j hj => ?_
          have hi' : i < len := by omega
          have hj0 : j = 0 := by
            have : (encB ((List.range len).map f))[i].length = 1 := by simp [encB]
            omega
          subst hj0
          refine ⟨hblt, _, by rw [Nat.mul_one, Nat.add_zero]; have h9 := (hf i hi').1; rw [show (⟨b, off, none⟩ : Addr).add i = ⟨b, off + i, none⟩ by unfold Addr.add; split <;> simp_all] at h9; exact h9, ?_⟩
          have : (encB ((List.range len).map f))[i][0] = .raw (.int .u8 (f i)) := by simp [encB]
          rw [this]
          exact .raw _
        rw [hlen] at hr
        exact .d hr
      · obtain rfl : len = 0 := by omega
        exact .d (.nil _ _)
    · obtain ⟨i, hi', rfl⟩ := List.mem_map.1 hb
      exact (hf i (List.mem_range.1 hi')).2
    · have := bulk_len ((List.range len).map D)
      simp only [List.length_map, List.length_range, Rows.uptoBulk] at this ⊢
      omega
end Go.Proofs.YtiagjpiclnmpkaaDoor
