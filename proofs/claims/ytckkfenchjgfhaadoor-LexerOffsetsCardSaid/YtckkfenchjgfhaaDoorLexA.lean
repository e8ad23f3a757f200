/- The plain walks of the lexer's and its reference's character tests: each returns the Bool of its plain form, the world left as it is. -/
import Derived.Test.YtckkfenchjgfhaaDoorProg
import Derived.Test.YtckkfenchjgfhaaDoorLexPure
import Derived.WalkKit
import Derived.WalkSpells
import Derived.WalkLawsBesides
import Derived.Lib.Hide
import Derived.BigQuiet
import Derived.Deep.QuietTactic
namespace Go.Proofs.YtckkfenchjgfhaaDoor
open Go.RowKit

theorem letter_yes (c : Int) (w : World) (h : isLetter c = true) : Calls Tryd.prog 28 #[.int .i32 c] w fun e w' => e = .returned (.bool true) ∧ w = w' := by
  obtain ⟨h1, h2⟩ : 97 ≤ c ∧ c ≤ 122 := by simpa [isLetter] using h
  clear h
  go_enter Tryd.func28, Tryd.ntmps28
  go_wp2
  go_ret
  exact ⟨rfl, rfl⟩
theorem letter_no (c : Int) (w : World) (h : isLetter c = false) : Calls Tryd.prog 28 #[.int .i32 c] w fun e w' => e = .returned (.bool false) ∧ w = w' := by
  by_cases h1 : 97 ≤ c
  · have h2 : ¬ c ≤ 122 := by simp [isLetter] at h; omega
    clear h
    go_enter Tryd.func28, Tryd.ntmps28
    go_wp2
    go_ret
    exact ⟨rfl, rfl⟩
  · clear h
    go_enter Tryd.func28, Tryd.ntmps28
    go_wp2
    go_ret
    exact ⟨rfl, rfl⟩
theorem letter_any (c : Int) (w : World) : Calls Tryd.prog 28 #[.int .i32 c] w fun e w' => e = .returned (.bool (isLetter c)) ∧ w = w' := by
  cases h : isLetter c
  · exact letter_no c w h
  · exact letter_yes c w h
theorem digit_yes (c : Int) (w : World) (h : isDigit c = true) : Calls Tryd.prog 29 #[.int .i32 c] w fun e w' => e = .returned (.bool true) ∧ w = w' := by
  obtain ⟨h1, h2⟩ : 48 ≤ c ∧ c ≤ 57 := by simpa [isDigit] using h
  clear h
  go_enter Tryd.func29, Tryd.ntmps29
  go_wp2
  go_ret
  exact ⟨rfl, rfl⟩
theorem digit_no (c : Int) (w : World) (h : isDigit c = false) : Calls Tryd.prog 29 #[.int .i32 c] w fun e w' => e = .returned (.bool false) ∧ w = w' := by
  by_cases h1 : 48 ≤ c
  · have h2 : ¬ c ≤ 57 := by simp [isDigit] at h; omega
    clear h
    go_enter Tryd.func29, Tryd.ntmps29
    go_wp2
    go_ret
    exact ⟨rfl, rfl⟩
  · clear h
    go_enter Tryd.func29, Tryd.ntmps29
    go_wp2
    go_ret
    exact ⟨rfl, rfl⟩
theorem digit_any (c : Int) (w : World) : Calls Tryd.prog 29 #[.int .i32 c] w fun e w' => e = .returned (.bool (isDigit c)) ∧ w = w' := by
  cases h : isDigit c
  · exact digit_no c w h
  · exact digit_yes c w h
theorem running_any (c : Int) (w : World) : Calls Tryd.prog 50 #[.int .i32 c] w fun e w' => e = .returned (.bool (isRunning c)) ∧ w = w' := by
  cases h : isLetter c
  · cases h2 : isDigit c
    · have e : isRunning c = (c == 47) := by simp [isRunning, h, h2]
      rw [e]; clear e
      go_enter Tryd.func50, Tryd.ntmps50
      go_wp2_with (first | (go_at_call 28; refine (letter_no _ _ h).mono ?_; rintro e w' ⟨rfl, rfl⟩) | (go_at_call 29; refine (digit_no _ _ h2).mono ?_; rintro e w' ⟨rfl, rfl⟩))
      go_ret
      exact ⟨rfl, rfl⟩
    · have e : isRunning c = true := by simp [isRunning, h2]
      rw [e]; clear e
      go_enter Tryd.func50, Tryd.ntmps50
      go_wp2_with (first | (go_at_call 28; refine (letter_no _ _ h).mono ?_; rintro e w' ⟨rfl, rfl⟩) | (go_at_call 29; refine (digit_yes _ _ h2).mono ?_; rintro e w' ⟨rfl, rfl⟩))
      go_ret
      exact ⟨rfl, rfl⟩
  · have e : isRunning c = true := by simp [isRunning, h]
    rw [e]; clear e
    go_enter Tryd.func50, Tryd.ntmps50
    go_wp2_with (first | (go_at_call 28; refine (letter_yes _ _ h).mono ?_; rintro e w' ⟨rfl, rfl⟩))
    go_ret
    exact ⟨rfl, rfl⟩
theorem skip1_any (c : Int) (w : World) : Calls Tryd.prog 49 #[.int .i32 c] w fun e w' => e = .returned (.bool (c != 10)) ∧ w = w' := by
  go_enter Tryd.func49, Tryd.ntmps49
  go_wp2
  go_ret
  exact ⟨rfl, rfl⟩
end Go.Proofs.YtckkfenchjgfhaaDoor
