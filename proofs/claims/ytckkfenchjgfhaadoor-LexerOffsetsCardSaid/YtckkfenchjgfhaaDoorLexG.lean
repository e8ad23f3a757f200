/- strings.SplitSeq at one byte: its closure's contract, as a range over a function wants it. -/
import Derived.Test.YtckkfenchjgfhaaDoorLexF
import Derived.Test.YtckkfenchjgfhaaDoorRangeR
import Derived.RangeFuncBound
import Derived.RangeFuncCalls
import Derived.RangeFuncLeaves
import Derived.Shelf.Abstract
import Derived.Shelf.RegionOpen
import Derived.OwnWalkIn
import Derived.TacticsInMore
import Derived.LoopNIn
import Derived.LoopIn
import Derived.OneCell
namespace Go.Proofs.YtckkfenchjgfhaaDoor
open Go.RowKit Go.Shelf

attribute [local go_sem] Oper.semAt_some

/-- the length of the string in a box -/
def boxLen (w : World) (b : Nat) : Nat := match w.cell? ⟨b, 0, none⟩ with | some (Value.string r) => r.size | _ => 0
theorem boxLen_eq {w : World} {b t : Nat} {r : ByteArray} (h : w.heap[b]? = some (.cells #[.string r] t (0, 0))) : boxLen w b = r.size := by simp [boxLen, cell_of_one h]
def SplitAll (s : ByteArray) (xs : List ByteArray) : Prop := xs.map (fun x => x.data.toList) = partsL s.data.toList
def SplitPre (s : ByteArray) (xs : List ByteArray) : Prop := xs.map (fun x => x.data.toList) <+: partsL s.data.toList
def KeepB (bs : List Nat) (A B : World) : Prop := ∀ b ∈ bs, B.heap[b]? = A.heap[b]?
def StoreB (b : Nat) (A B : World) : Prop := ∃ r : ByteArray, B = A.setCell ⟨b, 0, none⟩ (.string r)
theorem index_one (s : ByteArray) (c : UInt8) (w : World) :
    Calls Tryd.prog 36 #[.string s, .string ⟨#[c]⟩] w fun e w' => e = .returned (.int .i64 (Lib.indexByte s.data.toList c)) ∧ w = w' :=
  (Tryd.strings_Index_one s c w).mono fun _ _ ⟨h1, h2⟩ => ⟨h1, h2.symm⟩

set_option maxRecDepth 100000 in
set_option maxHeartbeats 2000000 in
theorem split1_in (n l b1 b2 b3 : Nat) (hn1 : 1 ≤ n) (s : ByteArray) (hs : s.size ≤ 9223372036854775806) (h12 : b1 ≠ b2) (h32 : b3 ≠ b2) (J Jx : List ByteArray → World → Prop)
    (hJ : ∀ pre A B, J pre A → StoreB b2 A B → J pre B)
    (hY : ∀ pre x A, J pre A → YieldAt Fence.wide (n - 1) Tryd.prog l #[.string x] A fun e B =>
      (e = .returned (.bool true) ∧ J (pre ++ [x]) B ∧ KeepB [b1, b2, b3] A B) ∨ (e = .returned (.bool false) ∧ Jx (pre ++ [x]) B))
    (W : World) (hb1 : W.heap[b1]? = some (.cells #[.string ⟨#[47]⟩] 9 (0, 0))) (hb2 : W.heap[b2]? = some (.cells #[.string s] 9 (0, 0))) (hb3 : W.heap[b3]? = some (.cells #[.int .i64 0] 3 (0, 0))) (h0 : J [] W) :
    CallsIn Fence.wide n Tryd.prog 67 #[.func (.yield l) #[] #[], .pointer (some ⟨b1, 0, none⟩), .pointer (some ⟨b2, 0, none⟩), .pointer (some ⟨b3, 0, none⟩)] W fun e B => (∃ v, e = .returned v) ∧
      ((∃ xs : List ByteArray, SplitAll s xs ∧ J xs B) ∨ (∃ pre : List ByteArray, SplitPre s pre ∧ Jx pre B)) := by
  have c1 := cell_of_one hb1
  refine callsIn_of_wp Tryd.func67 rfl trivial ?_ rfl
  simp only [Tryd.ntmps67, List.size_toArray, List.length_cons, List.length_nil, Nat.reduceAdd, Nat.reduceSub, Array.replicate_succ, Array.replicate_zero, List.push_toArray, List.append_toArray, List.nil_append, List.cons_append]
  gi_wp2_with fail
  gi_loopw [7, 8] (fun _ _ wr => ∃ (pre : List ByteArray) (r : ByteArray), wr.heap[b1]? = some (.cells #[.string ⟨#[47]⟩] 9 (0, 0)) ∧ wr.heap[b2]? = some (.cells #[.string r] 9 (0, 0)) ∧ wr.heap[b3]? = some (.cells #[.int .i64 0] 3 (0, 0)) ∧
      r.size ≤ 9223372036854775806 ∧ J pre wr ∧ Hid (pre.map (·.data.toList) ++ partsL r.data.toList = partsL s.data.toList)) (fun _ _ wr => boxLen wr b2)
  case atStart => exact ⟨[], s, hb1, hb2, hb3, hs, h0, Lib.hid rfl⟩
  case round =>
    obtain ⟨pre, r, hr1, hr2, hr3, hrs, hJr, hP⟩ := hrel
    have d1 := cell_of_one hr1
    have d2 := cell_of_one hr2
    have d3 := cell_of_one hr3
    have f2 := free_of_one hr2
    have hge := Lib.indexByte_ge r.data.toList 47
    have HC := Lib.hid (index_one r 47 wr)
    have HR1 := Lib.hid hr1
    have HR2 := Lib.hid hr2
    have HR3 := Lib.hid hr3
    clear hr1 hr2 hr3 c1 hb1 hb2 hb3
    by_cases hneg : Lib.indexByte r.data.toList 47 < 0
    · have hm1 : Lib.indexByte r.data.toList 47 = -1 := by omega
      have HN := Lib.hid (partsL_none hm1)
      rw [hm1] at HC
      clear hm1 hneg hge
      obtain ⟨fn, tmps, assign, body, hy, hR⟩ := hY pre r wr hJr
      gi_wp2_with (first | (refine ⟨trivial, ?_⟩; gi_at_call 36; refine (callsIn_wide.2 HC.out).mono ?_; rintro e w' ⟨rfl, rfl⟩))
      refine hR.mono ?_
      rintro e W3 (⟨rfl, hJ3, hk3⟩ | ⟨rfl, hJx3⟩)
      · gi_wp2_with fail
        go_end0
        exact ⟨⟨_, rfl⟩, .inl ⟨_, by unfold SplitAll; rw [← hP.out, HN.out]; simp, hJ3⟩⟩
      · gi_wp2_with fail
        go_end0
        exact ⟨⟨_, rfl⟩, .inr ⟨_, by unfold SplitPre; rw [← hP.out, HN.out]; simp, hJx3⟩⟩
    · obtain ⟨i, hi⟩ : ∃ i : Nat, Lib.indexByte r.data.toList 47 = (i : Int) := ⟨_, (Int.toNat_of_nonneg (by omega)).symm⟩
      obtain ⟨hlt, hparts⟩ := partsL_some hi
      have hlt' : i < r.size := by simpa using hlt
      rw [hi] at HC
      clear hi hlt hneg hge
      have HN := Lib.hid hparts
      clear hparts
      obtain ⟨fn, tmps, assign, body, hy, hR⟩ := hY pre (r.extract 0 i) wr hJr
      gi_wp2_with (first | (refine ⟨trivial, ?_⟩; gi_at_call 36; refine (callsIn_wide.2 HC.out).mono ?_; rintro e w' ⟨rfl, rfl⟩))
      refine hR.mono ?_
      rintro e W3 (⟨rfl, hJ3, hk3⟩ | ⟨rfl, hJx3⟩)
      · have k1 : W3.heap[b1]? = _ := (hk3 b1 (by simp)).trans HR1.out
        have k2 : W3.heap[b2]? = _ := (hk3 b2 (by simp)).trans HR2.out
        have k3 : W3.heap[b3]? = _ := (hk3 b3 (by simp)).trans HR3.out
        have g1 := cell_of_one k1
        have g2 := cell_of_one k2
        have g3 := cell_of_one k3
        have e2 := free_of_one k2
        have K1 := Lib.hid k1
        have K2 := Lib.hid k2
        have K3 := Lib.hid k3
        have hk3' := Lib.hid hk3
        clear k1 k2 k3 d1 d2 d3 f2 hk3
        gi_wp2_with fail
        go_roundw
        case rel =>
          refine ⟨_, r.extract (i + 1) r.size, ?_, one_setCell K2.out, ?_, by simp; omega, hJ _ _ _ hJ3 ⟨_, rfl⟩, Lib.hid ?_⟩
          · exact (Below.heap_setCell _ _ _ _ h12).trans K1.out
          · exact (Below.heap_setCell _ _ _ _ h32).trans K3.out
          · rw [← hP.out, HN.out, extract_end]
            simp
        case measure => rw [boxLen_eq (one_setCell K2.out), boxLen_eq HR2.out]; simp; omega
      · gi_wp2_with fail
        refine bodyPost_ret (results_none rfl _ _ _) rfl ?_
        exact ⟨⟨_, rfl⟩, .inr ⟨_, ⟨partsL (r.data.toList.drop (i + 1)), by rw [← hP.out, HN.out]; simp⟩, hJx3⟩⟩
end Go.Proofs.YtckkfenchjgfhaaDoor
