/- The reference's character tests, word and slash. -/
import Derived.Test.YtckkfenchjgfhaaDoorLexA
import Derived.Test.YtckkfenchjgfhaaDoorLexB
import Derived.Test.YtckkfenchjgfhaaDoorLexC
import Derived.Test.YtckkfenchjgfhaaDoorLexD
namespace Go.Proofs.YtckkfenchjgfhaaDoor
open Go.RowKit

theorem rletter_yes (c : Int) (w : World) (h : isLetter c = true) : Calls Tryd.prog 45 #[.int .u8 c] w fun e w' => e = .returned (.bool true) ∧ w = w' := by
  obtain ⟨h1, h2⟩ : 97 ≤ c ∧ c ≤ 122 := by simpa [isLetter] using h
  clear h
  go_enter Tryd.func45, Tryd.ntmps45
  go_wp2
  go_ret
  exact ⟨rfl, rfl⟩
theorem rletter_no (c : Int) (w : World) (h : isLetter c = false) : Calls Tryd.prog 45 #[.int .u8 c] w fun e w' => e = .returned (.bool false) ∧ w = w' := by
  by_cases h1 : 97 ≤ c
  · have h2 : ¬ c ≤ 122 := by simp [isLetter] at h; omega
    clear h
    go_enter Tryd.func45, Tryd.ntmps45
    go_wp2
    go_ret
    exact ⟨rfl, rfl⟩
  · clear h
    go_enter Tryd.func45, Tryd.ntmps45
    go_wp2
    go_ret
    exact ⟨rfl, rfl⟩
theorem rletter_any (c : Int) (w : World) : Calls Tryd.prog 45 #[.int .u8 c] w fun e w' => e = .returned (.bool (isLetter c)) ∧ w = w' := by
  cases h : isLetter c
  · exact rletter_no c w h
  · exact rletter_yes c w h
theorem rdigit_yes (c : Int) (w : World) (h : isDigit c = true) : Calls Tryd.prog 46 #[.int .u8 c] w fun e w' => e = .returned (.bool true) ∧ w = w' := by
  obtain ⟨h1, h2⟩ : 48 ≤ c ∧ c ≤ 57 := by simpa [isDigit] using h
  clear h
  go_enter Tryd.func46, Tryd.ntmps46
  go_wp2
  go_ret
  exact ⟨rfl, rfl⟩
theorem rdigit_no (c : Int) (w : World) (h : isDigit c = false) : Calls Tryd.prog 46 #[.int .u8 c] w fun e w' => e = .returned (.bool false) ∧ w = w' := by
  by_cases h1 : 48 ≤ c
  · have h2 : ¬ c ≤ 57 := by simp [isDigit] at h; omega
    clear h
    go_enter Tryd.func46, Tryd.ntmps46
    go_wp2
    go_ret
    exact ⟨rfl, rfl⟩
  · clear h
    go_enter Tryd.func46, Tryd.ntmps46
    go_wp2
    go_ret
    exact ⟨rfl, rfl⟩
theorem rdigit_any (c : Int) (w : World) : Calls Tryd.prog 46 #[.int .u8 c] w fun e w' => e = .returned (.bool (isDigit c)) ∧ w = w' := by
  cases h : isDigit c
  · exact rdigit_no c w h
  · exact rdigit_yes c w h
theorem rinner_any (c : Int) (w : World) : Calls Tryd.prog 69 #[.int .u8 c] w fun e w' => e = .returned (.bool (isRunning c)) ∧ w = w' := by
  cases h : isLetter c
  · cases h2 : isDigit c
    · have e : isRunning c = (c == 47) := by simp [isRunning, h, h2]
      rw [e]; clear e
      go_enter Tryd.func69, Tryd.ntmps69
      go_wp2_with (first | (go_at_call 45; refine (rletter_no _ _ h).mono ?_; rintro e w' ⟨rfl, rfl⟩) | (go_at_call 46; refine (rdigit_no _ _ h2).mono ?_; rintro e w' ⟨rfl, rfl⟩))
      go_ret
      exact ⟨rfl, rfl⟩
    · have e : isRunning c = true := by simp [isRunning, h2]
      rw [e]; clear e
      go_enter Tryd.func69, Tryd.ntmps69
      go_wp2_with (first | (go_at_call 45; refine (rletter_no _ _ h).mono ?_; rintro e w' ⟨rfl, rfl⟩) | (go_at_call 46; refine (rdigit_yes _ _ h2).mono ?_; rintro e w' ⟨rfl, rfl⟩))
      go_ret
      exact ⟨rfl, rfl⟩
  · have e : isRunning c = true := by simp [isRunning, h]
    rw [e]; clear e
    go_enter Tryd.func69, Tryd.ntmps69
    go_wp2_with (first | (go_at_call 45; refine (rletter_yes _ _ h).mono ?_; rintro e w' ⟨rfl, rfl⟩))
    go_ret
    exact ⟨rfl, rfl⟩
end Go.Proofs.YtckkfenchjgfhaaDoor
