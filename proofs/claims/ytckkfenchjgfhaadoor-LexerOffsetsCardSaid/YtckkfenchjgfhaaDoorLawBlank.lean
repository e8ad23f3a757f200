/- blank: true at a text of separators. -/
import Derived.Test.YtckkfenchjgfhaaDoorShelf
import Derived.Test.YtckkfenchjgfhaaDoorLexM
import Derived.Test.YtckkfenchjgfhaaDoorLexLaws4
import Derived.Lib.SplitLaws
namespace Go.Proofs.YtckkfenchjgfhaaDoor
open Go.RowKit

theorem split_short : ∀ (k : Nat) (l p : List UInt8), p ∈ Lib.splitK [10] 0 k l → p.length ≤ l.length
  | 0, l, p, h => by simp [Lib.splitK] at h; subst h; exact Nat.le_refl _
  | k + 1, l, p, h => by
    unfold Lib.splitK at h
    split at h
    · simp at h; subst h; exact Nat.le_refl _
    · rcases List.mem_cons.1 h with rfl | h
      · simp; omega
      · have := split_short k _ p h
        simp at this; omega
/-- the pieces of a text of separators -/
theorem blank_pieces (s : ByteArray) (h : skipL s.data.toList = s.data.toList.length) : ∃ Ps : List ByteArray, Lib.splitB ⟨#[10]⟩ 0 (Lib.countB s ⟨#[10]⟩) s = Ps ∧ Ps.length = Lib.countB s ⟨#[10]⟩ + 1 ∧ ∀ k (hk : k < Ps.length), Ps[k].size ≤ s.size ∧ Lib.trimB (Lib.cut Ps[k].data.toList [35]).1 32 = [] := by
  refine ⟨_, rfl, Lib.splitB_all ⟨#[10]⟩ (by decide) 0 _ s rfl, fun k hk => ?_⟩
  have hd := Lib.splitB_data ⟨#[10]⟩ 0 (Lib.countB s ⟨#[10]⟩) s
  have hm : ((Lib.splitB ⟨#[10]⟩ 0 (Lib.countB s ⟨#[10]⟩) s)[k]).data.toList ∈ Lib.splitK [10] 0 (Lib.countB s ⟨#[10]⟩) s.data.toList := by
    have e : Lib.splitK [10] 0 (Lib.countB s ⟨#[10]⟩) s.data.toList = (Lib.splitB ⟨#[10]⟩ 0 (Lib.countB s ⟨#[10]⟩) s).map (·.data.toList) := hd.symm
    rw [e]
    exact List.mem_map_of_mem (List.getElem_mem hk)
  refine ⟨?_, skip_lines _ _ rfl h _ hm⟩
  have := split_short _ _ _ hm
  simpa using this
theorem cell_in {w : World} {n : Nat} {x : Value} (h : w.cell? ⟨n, 0, none⟩ = some x) : n < w.heap.size := by
  rcases Nat.lt_or_ge n w.heap.size with h1 | h1
  · exact h1
  · rw [show w.cell? ⟨n, 0, none⟩ = none by simp [World.cell?, h1]] at h; cases h
theorem cells_new (w : World) (t : TypeId) (Ps : List ByteArray) (k : Nat) (hk : k < Ps.length) : (w.alloc (.cells (Ps.map Value.string).toArray t)).cell? ⟨w.heap.size, k, none⟩ = some (.string Ps[k]) := by
  simp [go_sem, hk]
def BlankRel (w1 : World) (n : Nat) (i : Value) (wr : World) : Prop := ∃ k : Nat, k ≤ n ∧ i = .int .i64 k ∧ Below w1.heap.size w1 wr
set_option maxHeartbeats 1000000 in
theorem blank_yes (s : ByteArray) (m : Int) (w : World) (hs : s.size ≤ 300) (hm : w.cell? ⟨0, 0, none⟩ = some (.int .i64 m)) (h : skipL s.data.toList = s.data.toList.length) :
    Calls Tryd.prog 27 #[.string s] w fun e w' => e = .returned (.bool true) ∧ Below w.heap.size w w' := by
  obtain ⟨Ps, hP, hl, hpc⟩ := blank_pieces s h
  have HS := Lib.hid (Tryd.strings_Split s ⟨#[10]⟩ m w (by omega) hm (by decide))
  rw [hP] at HS
  have hc := Lib.countB_le ⟨#[10]⟩ (by decide) _ s (Nat.le_refl _)
  generalize Lib.countB s ⟨#[10]⟩ = N at *
  have HM := Lib.hid hm
  have HPC := Lib.hid hpc
  have HB0 : Hid (Below w.heap.size w (w.alloc (.cells (Ps.map Value.string).toArray 9))) := Lib.hid ((Below.refl _ _).alloc (Nat.le_refl _) _)
  have HCN := Lib.hid (cells_new w 9 Ps)
  have HSZ : Hid ((w.alloc (.cells (Ps.map Value.string).toArray 9)).heap.size = w.heap.size + 1) := Lib.hid (by simp)
  have hw0 := cell_in hm
  clear hm h hP hpc
  generalize (w.alloc (.cells (Ps.map Value.string).toArray 9)) = w1 at *
  go_enter Tryd.func27, Tryd.ntmps27
  go_wp2_with (first | (go_at_call 42; refine (HS.out).mono ?_; rintro e w' ⟨rfl, rfl⟩))
  go_loopw [11] (fun i wr => BlankRel w' (N + 1) i wr) (fun i _ => N + 1 - (intOf i).toNat)
  case atStart => exact ⟨0, by omega, rfl, Below.refl _ _⟩
  case round =>
    obtain ⟨k, hk, rfl, hBr⟩ := hrel
    by_cases hlt : k < N + 1
    · have hk' : k < Ps.length := by omega
      have hcell := (hBr.cell (p := ⟨w.heap.size, k, none⟩) (by rw [HSZ.out]; show w.heap.size < _; omega)).trans (HCN.out k hk')
      obtain ⟨q1, q2⟩ := HPC.out k hk'
      have hmw : wr.cell? ⟨0, 0, none⟩ = some (.int .i64 m) := (hBr.cell (p := ⟨0, 0, none⟩) (by rw [HSZ.out]; show 0 < _; omega)).trans ((HB0.out.cell (p := ⟨0, 0, none⟩) hw0).trans HM.out)
      have HC := Lib.hid (Tryd.strings_Cut Ps[k] ⟨#[35]⟩ m wr (by omega) hmw)
      generalize Ps[k] = P at *
      have hz : (⟨(Lib.cut P.data.toList [35]).1.toArray⟩ : ByteArray).size ≤ 9223372036854775807 := by
        rw [cut_one]; have := (List.takeWhile_sublist (fun x : UInt8 => x != 35) (l := P.data.toList)).length_le
        rw [toList_len] at this; simp [ByteArray.size]; omega
      have HT := Lib.hid (fun W => Tryd.strings_Trim_one ⟨(Lib.cut P.data.toList [35]).1.toArray⟩ 32 (by decide) W hz)
      simp only [q2] at HT
      generalize (⟨(Lib.cut P.data.toList (⟨#[35]⟩ : ByteArray).data.toList).1.toArray⟩ : ByteArray) = C1 at *
      go_wp2_with (first
        | (go_at_call 43; refine (HC.out).mono ?_; rintro e w'' ⟨rfl, n1, rfl⟩)
        | (go_at_call 44; refine (HT.out _).mono ?_; rintro e w'' ⟨rfl, hx⟩))
      go_roundw
      case rel => 
        refine ⟨k + 1, by omega, by go_num, ?_⟩
        rcases hx with rfl | rfl
        · exact below_drewN hBr _
        · exact below_drew1 (below_drewN hBr _)
      case measure => simp [intOf]; omega
    · obtain rfl : k = N + 1 := by omega
      go_wp2_with fail
      go_ret
      exact ⟨rfl, HB0.out.trans (hBr.mono HB0.out.size)⟩
end Go.Proofs.YtckkfenchjgfhaaDoor
