/- LexerErrors: for every string the law returns true. -/
import Derived.Test.YtckkfenchjgfhaaDoorLexM
import Derived.Test.YtckkfenchjgfhaaDoorLexLaws
namespace Go.Proofs.YtckkfenchjgfhaaDoor
open Go.RowKit

theorem lawErrors_long (s : ByteArray) (w : World) (h : 300 < s.size) :
    Calls Tryd.prog 5 #[.string s] w fun e w' => e = .returned (.bool true) ∧ Below w.heap.size w w' := by
  go_enter Tryd.func5, Tryd.ntmps5
  go_wp2_with (first | (go_at_call 10; refine (awake_any _).mono ?_; rintro e w' ⟨rfl, hb⟩))
  go_ret
  exact ⟨rfl, hb⟩
theorem owns_form {w : World} {B : Nat} {e : TypeId} {k : Nat} {v : Value} {n : Nat} {xs : List Value} (h : w.ownsRow B e k v n xs) : ∃ A c, v = .slice A n c := by
  rcases h.2 with ⟨rfl, rfl⟩ | ⟨g, cap, _, rfl, _⟩
  · exact ⟨_, _, rfl⟩
  · exact ⟨_, _, rfl⟩
set_option maxHeartbeats 400000 in
theorem lawErrors_short (s : ByteArray) (w : World) (h : s.size ≤ 300) :
    Calls Tryd.prog 5 #[.string s] w fun e w' => e = .returned (.bool true) ∧ Below w.heap.size w w' := by
  have h1 : decide (300 < (s.size : Int)) = false := by simp; omega
  go_enter Tryd.func5, Tryd.ntmps5
  go_wp2_with fail
  refine (scan_short s _ (by omega)).mono ?_
  rintro e w1 ⟨v1, p1, c1, rfl, hB1, hR⟩
  rcases hR with ⟨ts, _, rfl, rfl, ho, _, _⟩ | ⟨q, hs, hq, rfl, rfl, rfl⟩
  · obtain ⟨A, c, rfl⟩ := owns_form ho
    clear ho
    go_wp2_with (first | (go_at_call 10; refine (awake_any _).mono ?_; rintro e w' ⟨rfl, hb⟩))
    go_ret
    exact ⟨rfl, hB1.trans (hb.mono hB1.size)⟩
  · obtain ⟨_, ts', hts⟩ := scanAll_before hs
    have HS : Hid (scanAll (s.extract 0 q).data.toList = (ts', none)) := Lib.hid (by rw [extract_list]; simpa using hts)
    have hge : decide ((s.size : Int) ≤ (q : Int)) = false := by simp; omega
    have hge' : decide (s.size ≤ q) = false := by simp; omega
    clear hs hts
    go_wp2_with fail
    refine (scan_short (s.extract 0 q) _ (by simp; omega)).mono ?_
    rintro e w2 ⟨v2, p2, c2, rfl, hB2, hR⟩
    rcases hR with ⟨ts, _, rfl, rfl, ho, _, _⟩ | ⟨q', hs', _⟩
    · obtain ⟨A, c, rfl⟩ := owns_form ho
      clear ho
      have HB := Lib.hid (hB1.trans (hB2.mono hB1.size))
      clear hB1 hB2
      go_wp2_with (first | (go_at_call 10; refine (awake_any _).mono ?_; rintro e w' ⟨rfl, hb⟩))
      go_ret
      exact ⟨rfl, HB.out.trans (hb.mono HB.out.size)⟩
    · rw [HS.out] at hs'
      simp at hs'
theorem lawErrors_any (s : ByteArray) (w : World) :
    Calls Tryd.prog 5 #[.string s] w fun e w' => e = .returned (.bool true) ∧ Below w.heap.size w w' := by
  rcases Nat.lt_or_ge 300 s.size with h | h
  · exact lawErrors_long s w h
  · exact lawErrors_short s w h
end Go.Proofs.YtckkfenchjgfhaaDoor
