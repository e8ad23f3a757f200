/- run and skip of the lexer, for every string. -/
import Derived.Test.YtckkfenchjgfhaaDoorLexB
namespace Go.Proofs.YtckkfenchjgfhaaDoor
open Go.RowKit

def runTo (p : UInt8 → Bool) (l : List UInt8) (k : Nat) : Prop := ∀ j (hj : j < l.length), j < k → p l[j] = true
theorem runTo_zero (p : UInt8 → Bool) (l : List UInt8) : runTo p l 0 := fun _ _ h => absurd h (by omega)
theorem runTo_step {p : UInt8 → Bool} {s : ByteArray} {k : Nat} (hk : k < s.size) (h : runTo p s.data.toList k) (h1 : p s[k] = true) : runTo p s.data.toList (k + 1) := by
  intro j hj hlt
  rcases Nat.lt_or_ge j k with hh | hh
  · exact h j hj hh
  · obtain rfl : j = k := by omega
    exact h1
set_option maxHeartbeats 400000 in
theorem run_running (s : ByteArray) (w : World) (hs : s.size ≤ maxLen) :
    Calls Tryd.prog 48 #[.string s, .func (.func 50) #[] #[]] w fun e w' => e = .returned (.int .i64 (runL innerB s.data.toList)) ∧ w = w' := by
  unfold maxLen at hs
  go_enter Tryd.func48, Tryd.ntmps48
  go_wp2_with fail
  go_loop [5] (fun i => ∃ k : Nat, k ≤ s.size ∧ i = .int .i64 k ∧ runTo innerB s.data.toList k) (fun i => s.size - (intOf i).toNat)
  case atStart => exact ⟨0, Nat.zero_le _, rfl, runTo_zero _ _⟩
  case round =>
    obtain ⟨k, hk, rfl, hto⟩ := hrel
    by_cases hlt : k < s.size
    · have hb : ((s[k]'hlt).toNat : Int) < 256 := by have := (s[k]'hlt).toNat_lt; omega
      cases hr : isRunning ((s[k]'hlt).toNat : Int)
      · have Hf := Lib.hid (runL_eq (p := innerB) (l := s.data.toList) (k := k) (by simpa using hk) hto (fun _ => hr))
        go_wp2_with (first | (go_at_call 50; refine (running_any _ _).mono ?_; rintro e w' ⟨rfl, rfl⟩))
        go_ret
        exact ⟨by rw [Hf.out]; rfl, rfl⟩
      · go_wp2_with (first | (go_at_call 50; refine (running_any _ _).mono ?_; rintro e w' ⟨rfl, rfl⟩))
        go_round
        case rel => exact ⟨k + 1, by omega, by go_num, runTo_step hlt hto hr⟩
        case measure => simp [intOf]; omega
    · have Hf := Lib.hid (runL_eq (p := innerB) (l := s.data.toList) (k := k) (by simpa using hk) hto (fun h => absurd (by simpa using h) hlt))
      go_wp2_with fail
      go_ret
      exact ⟨by rw [Hf.out]; rfl, rfl⟩
set_option maxHeartbeats 400000 in
theorem run_line (s : ByteArray) (w : World) (hs : s.size ≤ maxLen) :
    Calls Tryd.prog 48 #[.string s, .func (.func 49) #[] #[]] w fun e w' => e = .returned (.int .i64 (runL lineB s.data.toList)) ∧ w = w' := by
  unfold maxLen at hs
  go_enter Tryd.func48, Tryd.ntmps48
  go_wp2_with fail
  go_loop [5] (fun i => ∃ k : Nat, k ≤ s.size ∧ i = .int .i64 k ∧ runTo lineB s.data.toList k) (fun i => s.size - (intOf i).toNat)
  case atStart => exact ⟨0, Nat.zero_le _, rfl, runTo_zero _ _⟩
  case round =>
    obtain ⟨k, hk, rfl, hto⟩ := hrel
    by_cases hlt : k < s.size
    · have hb : ((s[k]'hlt).toNat : Int) < 256 := by have := (s[k]'hlt).toNat_lt; omega
      cases hr : (((s[k]'hlt).toNat : Int) != 10)
      · have Hf := Lib.hid (runL_eq (p := lineB) (l := s.data.toList) (k := k) (by simpa using hk) hto (fun _ => hr))
        go_wp2_with (first | (go_at_call 49; refine (skip1_any _ _).mono ?_; rintro e w' ⟨rfl, rfl⟩))
        go_ret
        exact ⟨by rw [Hf.out]; rfl, rfl⟩
      · go_wp2_with (first | (go_at_call 49; refine (skip1_any _ _).mono ?_; rintro e w' ⟨rfl, rfl⟩))
        go_round
        case rel => exact ⟨k + 1, by omega, by go_num, runTo_step hlt hto hr⟩
        case measure => simp [intOf]; omega
    · have Hf := Lib.hid (runL_eq (p := lineB) (l := s.data.toList) (k := k) (by simpa using hk) hto (fun h => absurd (by simpa using h) hlt))
      go_wp2_with fail
      go_ret
      exact ⟨by rw [Hf.out]; rfl, rfl⟩
end Go.Proofs.YtckkfenchjgfhaaDoor
