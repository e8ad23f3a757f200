/- LexerScan: for every string the law returns true. -/
import Derived.Test.YtckkfenchjgfhaaDoorLexM
import Derived.Test.YtckkfenchjgfhaaDoorRefI
namespace Go.Proofs.YtckkfenchjgfhaaDoor
open Go.RowKit

theorem scanPost_toks {w w' : World} {s : ByteArray} {e : Ending} (h : ScanPost w s e w') : ∃ (v : Value) (p c : Int) (ts : List Tok), e = .returned (.tuple #[v, .int .i64 p, .int .i64 c]) ∧ Below w.heap.size w w' ∧ ToksAt w' v ts ∧ ts.length ≤ s.size ∧
    ts = (scanAll s.data.toList).1 ∧ p = (match (scanAll s.data.toList).2 with | some q => (q : Int) | none => 0) ∧ c = (match (scanAll s.data.toList).2 with | some _ => 3 | none => 0) := by
  obtain ⟨v, p, c, h1, h2, h3⟩ := h
  rcases h3 with ⟨ts, e1, rfl, rfl, ho, _, hl⟩ | ⟨q, e1, _, rfl, rfl, rfl⟩
  · exact ⟨v, _, _, ts, h1, h2, toks_of_owns ho, hl, by rw [e1], by rw [e1], by rw [e1]⟩
  · exact ⟨_, _, _, [], h1, h2, ⟨none, 0, rfl, by simp, fun h => by simp at h⟩, by simp, by rw [e1], by rw [e1], by rw [e1]⟩
theorem lawScan_long (s : ByteArray) (w : World) (h : 300 < s.size) :
    Calls Tryd.prog 4 #[.string s] w fun e w' => e = .returned (.bool true) ∧ Below w.heap.size w w' := by
  go_enter Tryd.func4, Tryd.ntmps4
  go_wp2_with (first | (go_at_call 10; refine (awake_any _).mono ?_; rintro e w' ⟨rfl, hb⟩))
  go_ret
  exact ⟨rfl, hb⟩
set_option maxHeartbeats 400000 in
theorem lawScan_short (s : ByteArray) (w : World) (h : s.size ≤ 300) :
    Calls Tryd.prog 4 #[.string s] w fun e w' => e = .returned (.bool true) ∧ Below w.heap.size w w' := by
  have h1 : decide (300 < (s.size : Int)) = false := by simp; omega
  go_enter Tryd.func4, Tryd.ntmps4
  go_wp2_with fail
  refine (scan_short s _ (by omega)).mono ?_
  intro e w1 hp1
  obtain ⟨v1, p1, c1, ts1, rfl, hB1, hT1, hl1, et1, ep1, ec1⟩ := scanPost_toks hp1
  have E1 := Lib.hid et1
  have E2 := Lib.hid ep1
  have E3 := Lib.hid ec1
  clear hp1 et1 ep1 ec1
  have HT1 := Lib.hid hT1
  clear hT1
  obtain ⟨A1, n1, rfl, _, _⟩ := id HT1.out
  go_wp2_with fail
  refine (rscan_short s _ (by omega)).mono ?_
  intro e w2 hp2
  obtain ⟨v2, p2, c2, ts2, rfl, hB2, hT2, hl2, et2, ep2, ec2⟩ := scanPost_toks hp2
  obtain rfl : ts2 = ts1 := et2.trans E1.out.symm
  obtain rfl : p2 = p1 := ep2.trans E2.out.symm
  obtain rfl : c2 = c1 := ec2.trans E3.out.symm
  clear hp2 et2 ep2 ec2
  have HT2 := Lib.hid hT2
  have hq := rEqual_yes (by omega) (HT1.out.below hB2) hT2
  clear hT2
  have HQ := Lib.hid hq
  clear hq
  have HB := Lib.hid (hB1.trans (hB2.mono hB1.size))
  clear hB1 hB2
  have hp : (p2 == p2) = true := by simp
  have hc : (c2 == c2) = true := by simp
  obtain ⟨A2, n2, rfl, _, _⟩ := id HT2.out
  go_wp2_with (first
    | (go_at_call 17; refine (HQ.out).mono ?_; rintro e w3 ⟨rfl, n, rfl⟩)
    | (go_at_call 10; refine (awake_any _).mono ?_; rintro e w4 ⟨rfl, hb⟩))
  go_ret
  exact ⟨rfl, (below_drewN HB.out n).trans (hb.mono HB.out.size)⟩
theorem lawScan_any (s : ByteArray) (w : World) :
    Calls Tryd.prog 4 #[.string s] w fun e w' => e = .returned (.bool true) ∧ Below w.heap.size w w' := by
  rcases Nat.lt_or_ge 300 s.size with h | h
  · exact lawScan_long s w h
  · exact lawScan_short s w h
end Go.Proofs.YtckkfenchjgfhaaDoor
