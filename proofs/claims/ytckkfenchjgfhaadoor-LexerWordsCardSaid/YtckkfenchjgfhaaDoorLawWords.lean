/- LexerWords: for every string the law returns true. -/
import Derived.Test.YtckkfenchjgfhaaDoorLexM
import Derived.Test.YtckkfenchjgfhaaDoorRefC
namespace Go.Proofs.YtckkfenchjgfhaaDoor
open Go.RowKit

theorem words_long (s : ByteArray) (w : World) (h : 120 < s.size) :
    Calls Tryd.prog 3 #[.string s] w fun e w' => e = .returned (.bool true) ∧ Below w.heap.size w w' := by
  go_enter Tryd.func3, Tryd.ntmps3
  go_wp2_with (first | (go_at_call 10; refine (awake_any _).mono ?_; rintro e w' ⟨rfl, hb⟩))
  go_ret
  exact ⟨rfl, hb⟩
set_option maxHeartbeats 400000 in
theorem words_short (s : ByteArray) (w : World) (h : s.size ≤ 120) :
    Calls Tryd.prog 3 #[.string s] w fun e w' => e = .returned (.bool true) ∧ Below w.heap.size w w' := by
  have h1 : decide (120 < (s.size : Int)) = false := by simp; omega
  have H1 := Lib.hid (fun W => word_any s W)
  have H2 := Lib.hid (fun W => rWord_any s W)
  have H3 := Lib.hid (fun W => label_any s W)
  have H4 := Lib.hid (fun W => rLabel_any s W)
  generalize wordL 24 s.data.toList = a at *
  generalize labelL s.data.toList = b at *
  have ha : (a == a) = true := by simp
  have hb : (b == b) = true := by simp
  go_enter Tryd.func3, Tryd.ntmps3
  go_wp2_with (first
    | (go_at_call 11; refine (H1.out _).mono ?_; rintro e w1 ⟨rfl, hb1⟩)
    | (go_at_call 12; refine (H2.out _).mono ?_; rintro e w' ⟨rfl, rfl⟩)
    | (go_at_call 13; refine (H3.out _).mono ?_; rintro e w2 ⟨rfl, hb2⟩)
    | (go_at_call 14; refine (H4.out _).mono ?_; rintro e w' ⟨rfl, rfl⟩)
    | (go_at_call 10; refine (awake_any _).mono ?_; rintro e w3 ⟨rfl, hb3⟩))
  go_ret
  exact ⟨rfl, (hb1.trans (hb2.mono hb1.size)).trans (hb3.mono (Nat.le_trans hb1.size hb2.size))⟩
theorem words_any (s : ByteArray) (w : World) :
    Calls Tryd.prog 3 #[.string s] w fun e w' => e = .returned (.bool true) ∧ Below w.heap.size w w' := by
  rcases Nat.lt_or_ge 120 s.size with h | h
  · exact words_long s w h
  · exact words_short s w h
end Go.Proofs.YtckkfenchjgfhaaDoor
