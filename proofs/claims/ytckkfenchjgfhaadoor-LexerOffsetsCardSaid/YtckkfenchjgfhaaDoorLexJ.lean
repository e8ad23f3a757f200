/- next of the lexer, for every text that is not empty. -/
import Derived.Test.YtckkfenchjgfhaaDoorLexI
import Derived.Test.YtckkfenchjgfhaaDoorLexPure2
import Derived.Test.YtckkfenchjgfhaaDoorWorld
import Derived.Deep.RegionWith
namespace Go.Proofs.YtckkfenchjgfhaaDoor
open Go.RowKit

set_option maxHeartbeats 1000000 in
theorem next_word (s : ByteArray) (w : World) (hs : s.size ≤ maxLen) (h0 : 0 < s.size) (hl : isLetter ((s[0]'h0).toNat : Int) = true) (hsl : hasSlash (s.data.toList.take (runL innerB s.data.toList)) = false) :
    Calls Tryd.prog 34 #[.string s] w fun e w' => e = .returned (.tuple #[.agg #[.int .i64 1, .string (s.extract 0 (runL innerB s.data.toList)), .int .i64 0], .bool (checkL 1 (s.data.toList.take (runL innerB s.data.toList)) 0 == 0)]) ∧ Below w.heap.size w w' := by
  have hl' : isLetter (wrap32 ((s[0]'h0).toNat : Int)) = true := by rw [byte32]; exact hl
  clear hl
  have hr : runL innerB s.data.toList ≤ s.size := by have := runL_le innerB s.data.toList; simpa using this
  unfold hasSlash at hsl
  have hz : (0 : Int) < s.size := by omega
  go_enter Tryd.func34, Tryd.ntmps34
  go_wp2_with (first | (go_at_call 28; refine (letter_yes _ _ hl').mono ?_; rintro e w' ⟨rfl, rfl⟩) | (go_at_call 48; refine (run_running _ _ hs).mono ?_; rintro e w' ⟨rfl, rfl⟩) | (go_at_call 18; refine (contains_one _ _ _).mono ?_; rintro e w' ⟨rfl, rfl⟩))
  go_region_with ((go_at_call 23; refine (check_any _ _ _ _).mono ?_; rintro e w' ⟨rfl, hb⟩; obtain ⟨hc, hf⟩ := bcell hb))
  all_goals go_wp2_with fail
  all_goals obtain ⟨⟨r0, r1, r2⟩, r3⟩ := next_end (.int .i64 1) (.string (s.extract 0 (runL innerB s.data.toList))) (.int .i64 0) hb
  all_goals exact bodyPost_ret (v := .tuple #[.agg #[.int .i64 1, .string (s.extract 0 (runL innerB s.data.toList)), .int .i64 0], .bool (checkL 1 (s.data.toList.take (runL innerB s.data.toList)) 0 == 0)]) (by simp [results, Tryd.results34, go_sem, r0, r1, r2]) rfl ⟨rfl, r3⟩
set_option maxHeartbeats 1000000 in
theorem next_label (s : ByteArray) (w : World) (hs : s.size ≤ maxLen) (h0 : 0 < s.size) (hl : isLetter ((s[0]'h0).toNat : Int) = true) (hsl : hasSlash (s.data.toList.take (runL innerB s.data.toList)) = true) :
    Calls Tryd.prog 34 #[.string s] w fun e w' => e = .returned (.tuple #[.agg #[.int .i64 2, .string (s.extract 0 (runL innerB s.data.toList)), .int .i64 0], .bool (checkL 2 (s.data.toList.take (runL innerB s.data.toList)) 0 == 0)]) ∧ Below w.heap.size w w' := by
  have hl' : isLetter (wrap32 ((s[0]'h0).toNat : Int)) = true := by rw [byte32]; exact hl
  clear hl
  have hr : runL innerB s.data.toList ≤ s.size := by have := runL_le innerB s.data.toList; simpa using this
  unfold hasSlash at hsl
  have hz : (0 : Int) < s.size := by omega
  go_enter Tryd.func34, Tryd.ntmps34
  go_wp2_with (first | (go_at_call 28; refine (letter_yes _ _ hl').mono ?_; rintro e w' ⟨rfl, rfl⟩) | (go_at_call 48; refine (run_running _ _ hs).mono ?_; rintro e w' ⟨rfl, rfl⟩) | (go_at_call 18; refine (contains_one _ _ _).mono ?_; rintro e w' ⟨rfl, rfl⟩))
  go_region_with ((go_at_call 23; refine (check_any _ _ _ _).mono ?_; rintro e w' ⟨rfl, hb⟩; obtain ⟨hc, hf⟩ := bcell hb))
  all_goals go_wp2_with fail
  all_goals obtain ⟨⟨r0, r1, r2⟩, r3⟩ := next_end (.int .i64 2) (.string (s.extract 0 (runL innerB s.data.toList))) (.int .i64 0) hb
  all_goals exact bodyPost_ret (v := .tuple #[.agg #[.int .i64 2, .string (s.extract 0 (runL innerB s.data.toList)), .int .i64 0], .bool (checkL 2 (s.data.toList.take (runL innerB s.data.toList)) 0 == 0)]) (by simp [results, Tryd.results34, go_sem, r0, r1, r2]) rfl ⟨rfl, r3⟩
set_option maxHeartbeats 1000000 in
theorem next_num (s : ByteArray) (w : World) (hs : s.size ≤ maxLen) (h0 : 0 < s.size) (hl : isLetter ((s[0]'h0).toNat : Int) = false) (hd : isDigit ((s[0]'h0).toNat : Int) = true) (m : Nat) (hm0 : m = runL innerB (s.extract 1 s.size).data.toList) :
    Calls Tryd.prog 34 #[.string s] w fun e w' => e = .returned (.tuple #[.agg #[.int .i64 3, .string (s.extract 0 (1 + m)), .int .i64 0], .bool (checkL 3 (s.data.toList.take (1 + m)) 0 == 0)]) ∧ Below w.heap.size w w' := by
  have hl' : isLetter (wrap32 ((s[0]'h0).toNat : Int)) = false := by rw [byte32]; exact hl
  clear hl
  have hd' : isDigit (wrap32 ((s[0]'h0).toNat : Int)) = true := by rw [byte32]; exact hd
  clear hd
  have Hc : Hid (∀ W, Calls Tryd.prog 48 #[.string (s.extract 1 s.size), .func (.func 50) #[] #[]] W fun e w' => e = .returned (.int .i64 m) ∧ W = w') := Lib.hid (fun W => by rw [hm0]; exact run_running (s.extract 1 s.size) W (by unfold maxLen at *; simp; omega))
  have hmr : m + 1 ≤ s.size := by
    rw [hm0]; have := runL_le innerB (s.extract 1 s.size).data.toList
    simp at this; simp; omega
  have hsz : s.size ≤ 9223372036854775807 := by unfold maxLen at hs; omega
  clear hm0
  have hz : (0 : Int) < s.size := by omega
  go_enter Tryd.func34, Tryd.ntmps34
  go_wp2_with (first | (go_at_call 28; refine (letter_no _ _ hl').mono ?_; rintro e w' ⟨rfl, rfl⟩) | (go_at_call 29; refine (digit_any _ _).mono ?_; rintro e w' ⟨rfl, rfl⟩) | (go_at_call 48; refine (Hc.out _).mono ?_; rintro e w' ⟨rfl, rfl⟩))
  go_region_with ((go_at_call 23; refine (check_any _ _ _ _).mono ?_; rintro e w' ⟨rfl, hb⟩; obtain ⟨hc, hf⟩ := bcell hb))
  all_goals go_wp2_with fail
  all_goals obtain ⟨⟨r0, r1, r2⟩, r3⟩ := next_end (.int .i64 3) (.string (s.extract 0 (1 + m))) (.int .i64 0) hb
  all_goals exact bodyPost_ret (v := .tuple #[.agg #[.int .i64 3, .string (s.extract 0 (1 + m)), .int .i64 0], .bool (checkL 3 (s.data.toList.take (1 + m)) 0 == 0)]) (by simp [results, Tryd.results34, go_sem, r0, r1, r2]) rfl ⟨rfl, r3⟩
set_option maxHeartbeats 1000000 in
theorem next_neg (s : ByteArray) (w : World) (hs : s.size ≤ maxLen) (h0 : 0 < s.size) (hl : isLetter ((s[0]'h0).toNat : Int) = false) (hd : isDigit ((s[0]'h0).toNat : Int) = false) (hm : (((s[0]'h0).toNat : Int) == 45) = true) (h1 : 1 < s.size) (hd1 : isDigit ((s[1]'h1).toNat : Int) = true) (m : Nat) (hm0 : m = runL innerB (s.extract 1 s.size).data.toList) :
    Calls Tryd.prog 34 #[.string s] w fun e w' => e = .returned (.tuple #[.agg #[.int .i64 3, .string (s.extract 0 (1 + m)), .int .i64 0], .bool (checkL 3 (s.data.toList.take (1 + m)) 0 == 0)]) ∧ Below w.heap.size w w' := by
  have hl' : isLetter (wrap32 ((s[0]'h0).toNat : Int)) = false := by rw [byte32]; exact hl
  clear hl
  have hd' : isDigit (wrap32 ((s[0]'h0).toNat : Int)) = false := by rw [byte32]; exact hd
  clear hd
  have hm' : (wrap32 ((s[0]'h0).toNat : Int) == 45) = true := by rw [byte32]; exact hm
  clear hm
  have hd1' : isDigit (wrap32 ((s[1]'h1).toNat : Int)) = true := by rw [byte32]; exact hd1
  clear hd1
  have h1z : (1 : Int) < s.size := by omega
  have Hc : Hid (∀ W, Calls Tryd.prog 48 #[.string (s.extract 1 s.size), .func (.func 50) #[] #[]] W fun e w' => e = .returned (.int .i64 m) ∧ W = w') := Lib.hid (fun W => by rw [hm0]; exact run_running (s.extract 1 s.size) W (by unfold maxLen at *; simp; omega))
  have hmr : m + 1 ≤ s.size := by
    rw [hm0]; have := runL_le innerB (s.extract 1 s.size).data.toList
    simp at this; simp; omega
  have hsz : s.size ≤ 9223372036854775807 := by unfold maxLen at hs; omega
  clear hm0
  have hz : (0 : Int) < s.size := by omega
  go_enter Tryd.func34, Tryd.ntmps34
  go_wp2_with (first | (go_at_call 28; refine (letter_no _ _ hl').mono ?_; rintro e w' ⟨rfl, rfl⟩) | (go_at_call 29; refine (digit_any _ _).mono ?_; rintro e w' ⟨rfl, rfl⟩) | (go_at_call 48; refine (Hc.out _).mono ?_; rintro e w' ⟨rfl, rfl⟩))
  go_region_with ((go_at_call 23; refine (check_any _ _ _ _).mono ?_; rintro e w' ⟨rfl, hb⟩; obtain ⟨hc, hf⟩ := bcell hb))
  all_goals go_wp2_with fail
  all_goals obtain ⟨⟨r0, r1, r2⟩, r3⟩ := next_end (.int .i64 3) (.string (s.extract 0 (1 + m))) (.int .i64 0) hb
  all_goals exact bodyPost_ret (v := .tuple #[.agg #[.int .i64 3, .string (s.extract 0 (1 + m)), .int .i64 0], .bool (checkL 3 (s.data.toList.take (1 + m)) 0 == 0)]) (by simp [results, Tryd.results34, go_sem, r0, r1, r2]) rfl ⟨rfl, r3⟩
set_option maxHeartbeats 1000000 in
theorem next_sign (s : ByteArray) (w : World) (h0 : 0 < s.size) (hl : isLetter ((s[0]'h0).toNat : Int) = false) (hd : isDigit ((s[0]'h0).toNat : Int) = false) (hm : (((s[0]'h0).toNat : Int) == 45) = false) :
    Calls Tryd.prog 34 #[.string s] w fun e w' => e = .returned (.tuple #[.agg #[.int .i64 4, .string (s.extract 0 (signL s.data.toList)), .int .i64 0], .bool (checkL 4 (s.data.toList.take (signL s.data.toList)) 0 == 0)]) ∧ Below w.heap.size w w' := by
  have hl' : isLetter (wrap32 ((s[0]'h0).toNat : Int)) = false := by rw [byte32]; exact hl
  clear hl
  have hd' : isDigit (wrap32 ((s[0]'h0).toNat : Int)) = false := by rw [byte32]; exact hd
  clear hd
  have hm' : (wrap32 ((s[0]'h0).toNat : Int) == 45) = false := by rw [byte32]; exact hm
  clear hm
  have hsg : signL s.data.toList ≤ s.size := by have := signL_le s.data.toList; simpa using this
  have hz : (0 : Int) < s.size := by omega
  go_enter Tryd.func34, Tryd.ntmps34
  go_wp2_with (first | (go_at_call 28; refine (letter_no _ _ hl').mono ?_; rintro e w' ⟨rfl, rfl⟩) | (go_at_call 29; refine (digit_any _ _).mono ?_; rintro e w' ⟨rfl, rfl⟩) | (go_at_call 39; refine (sign_any _ _).mono ?_; rintro e w' ⟨rfl, rfl⟩))
  go_region_with ((go_at_call 23; refine (check_any _ _ _ _).mono ?_; rintro e w' ⟨rfl, hb⟩; obtain ⟨hc, hf⟩ := bcell hb))
  all_goals go_wp2_with fail
  all_goals obtain ⟨⟨r0, r1, r2⟩, r3⟩ := next_end (.int .i64 4) (.string (s.extract 0 (signL s.data.toList))) (.int .i64 0) hb
  all_goals exact bodyPost_ret (v := .tuple #[.agg #[.int .i64 4, .string (s.extract 0 (signL s.data.toList)), .int .i64 0], .bool (checkL 4 (s.data.toList.take (signL s.data.toList)) 0 == 0)]) (by simp [results, Tryd.results34, go_sem, r0, r1, r2]) rfl ⟨rfl, r3⟩
set_option maxHeartbeats 1000000 in
theorem next_minus1 (s : ByteArray) (w : World) (h0 : 0 < s.size) (hl : isLetter ((s[0]'h0).toNat : Int) = false) (hd : isDigit ((s[0]'h0).toNat : Int) = false) (hm : (((s[0]'h0).toNat : Int) == 45) = true) (h1 : s.size ≤ 1) :
    Calls Tryd.prog 34 #[.string s] w fun e w' => e = .returned (.tuple #[.agg #[.int .i64 4, .string (s.extract 0 (signL s.data.toList)), .int .i64 0], .bool (checkL 4 (s.data.toList.take (signL s.data.toList)) 0 == 0)]) ∧ Below w.heap.size w w' := by
  have hl' : isLetter (wrap32 ((s[0]'h0).toNat : Int)) = false := by rw [byte32]; exact hl
  clear hl
  have hd' : isDigit (wrap32 ((s[0]'h0).toNat : Int)) = false := by rw [byte32]; exact hd
  clear hd
  have hm' : (wrap32 ((s[0]'h0).toNat : Int) == 45) = true := by rw [byte32]; exact hm
  clear hm
  have hsg : signL s.data.toList ≤ s.size := by have := signL_le s.data.toList; simpa using this
  have h1z : decide ((1 : Int) < s.size) = false := by simp; omega
  have hz : (0 : Int) < s.size := by omega
  go_enter Tryd.func34, Tryd.ntmps34
  go_wp2_with (first | (go_at_call 28; refine (letter_no _ _ hl').mono ?_; rintro e w' ⟨rfl, rfl⟩) | (go_at_call 29; refine (digit_any _ _).mono ?_; rintro e w' ⟨rfl, rfl⟩) | (go_at_call 39; refine (sign_any _ _).mono ?_; rintro e w' ⟨rfl, rfl⟩))
  go_region_with ((go_at_call 23; refine (check_any _ _ _ _).mono ?_; rintro e w' ⟨rfl, hb⟩; obtain ⟨hc, hf⟩ := bcell hb))
  all_goals go_wp2_with fail
  all_goals obtain ⟨⟨r0, r1, r2⟩, r3⟩ := next_end (.int .i64 4) (.string (s.extract 0 (signL s.data.toList))) (.int .i64 0) hb
  all_goals exact bodyPost_ret (v := .tuple #[.agg #[.int .i64 4, .string (s.extract 0 (signL s.data.toList)), .int .i64 0], .bool (checkL 4 (s.data.toList.take (signL s.data.toList)) 0 == 0)]) (by simp [results, Tryd.results34, go_sem, r0, r1, r2]) rfl ⟨rfl, r3⟩
set_option maxHeartbeats 1000000 in
theorem next_minus (s : ByteArray) (w : World) (h0 : 0 < s.size) (hl : isLetter ((s[0]'h0).toNat : Int) = false) (hd : isDigit ((s[0]'h0).toNat : Int) = false) (hm : (((s[0]'h0).toNat : Int) == 45) = true) (h1 : 1 < s.size) (hd1 : isDigit ((s[1]'h1).toNat : Int) = false) :
    Calls Tryd.prog 34 #[.string s] w fun e w' => e = .returned (.tuple #[.agg #[.int .i64 4, .string (s.extract 0 (signL s.data.toList)), .int .i64 0], .bool (checkL 4 (s.data.toList.take (signL s.data.toList)) 0 == 0)]) ∧ Below w.heap.size w w' := by
  have hl' : isLetter (wrap32 ((s[0]'h0).toNat : Int)) = false := by rw [byte32]; exact hl
  clear hl
  have hd' : isDigit (wrap32 ((s[0]'h0).toNat : Int)) = false := by rw [byte32]; exact hd
  clear hd
  have hm' : (wrap32 ((s[0]'h0).toNat : Int) == 45) = true := by rw [byte32]; exact hm
  clear hm
  have hd1' : isDigit (wrap32 ((s[1]'h1).toNat : Int)) = false := by rw [byte32]; exact hd1
  clear hd1
  have h1z : (1 : Int) < s.size := by omega
  have hsg : signL s.data.toList ≤ s.size := by have := signL_le s.data.toList; simpa using this
  have hz : (0 : Int) < s.size := by omega
  go_enter Tryd.func34, Tryd.ntmps34
  go_wp2_with (first | (go_at_call 28; refine (letter_no _ _ hl').mono ?_; rintro e w' ⟨rfl, rfl⟩) | (go_at_call 29; refine (digit_any _ _).mono ?_; rintro e w' ⟨rfl, rfl⟩) | (go_at_call 39; refine (sign_any _ _).mono ?_; rintro e w' ⟨rfl, rfl⟩))
  go_region_with ((go_at_call 23; refine (check_any _ _ _ _).mono ?_; rintro e w' ⟨rfl, hb⟩; obtain ⟨hc, hf⟩ := bcell hb))
  all_goals go_wp2_with fail
  all_goals obtain ⟨⟨r0, r1, r2⟩, r3⟩ := next_end (.int .i64 4) (.string (s.extract 0 (signL s.data.toList))) (.int .i64 0) hb
  all_goals exact bodyPost_ret (v := .tuple #[.agg #[.int .i64 4, .string (s.extract 0 (signL s.data.toList)), .int .i64 0], .bool (checkL 4 (s.data.toList.take (signL s.data.toList)) 0 == 0)]) (by simp [results, Tryd.results34, go_sem, r0, r1, r2]) rfl ⟨rfl, r3⟩
end Go.Proofs.YtckkfenchjgfhaaDoor
