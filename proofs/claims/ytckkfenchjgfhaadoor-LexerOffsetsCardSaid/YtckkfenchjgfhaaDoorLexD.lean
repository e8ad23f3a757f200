/- skip of the lexer, for every string. -/
import Derived.Test.YtckkfenchjgfhaaDoorLexC
namespace Go.Proofs.YtckkfenchjgfhaaDoor
open Go.RowKit

theorem drop_get (s : ByteArray) (k : Nat) (h : k < s.size) : s.data.toList.drop k = s[k] :: s.data.toList.drop (k + 1) := by
  rw [List.drop_eq_getElem_cons (by simpa using h)]; rfl
theorem extract_list (s : ByteArray) (a b : Nat) : (s.extract a b).data.toList = (s.data.toList.drop a).take (b - a) := by
  rw [ByteArray.data_extract, Array.toList_extract, List.extract_eq_take_drop]
theorem extract_end (s : ByteArray) (a : Nat) : (s.extract a s.size).data.toList = s.data.toList.drop a := by
  rw [extract_list, List.take_of_length_le (by simp)]
theorem skip_step {l : List UInt8} {k n : Nat} (h : skipL l = k + skipL (l.drop k)) (h1 : skipL (l.drop k) = n + skipL ((l.drop k).drop n)) : skipL l = (k + n) + skipL (l.drop (k + n)) := by
  rw [h, h1, List.drop_drop]; omega
set_option maxHeartbeats 400000 in
theorem skip_any (s : ByteArray) (w : World) (hs : s.size ≤ maxLen) :
    Calls Tryd.prog 33 #[.string s] w fun e w' => e = .returned (.int .i64 (skipL s.data.toList)) ∧ w = w' := by
  unfold maxLen at hs
  go_enter Tryd.func33, Tryd.ntmps33
  go_wp2_with fail
  go_loop [3] (fun i => ∃ k : Nat, k ≤ s.size ∧ i = .int .i64 k ∧ Hid (skipL s.data.toList = k + skipL (s.data.toList.drop k))) (fun i => s.size - (intOf i).toNat)
  case atStart => exact ⟨0, Nat.zero_le _, rfl, Lib.hid (by simp)⟩
  case round =>
    obtain ⟨k, hk, rfl, hto⟩ := hrel
    by_cases hlt : k < s.size
    · have HD := Lib.hid (drop_get s k hlt)
      have hb : ((s[k]'hlt).toNat : Int) < 256 := by have := (s[k]'hlt).toNat_lt; omega
      cases h32 : (((s[k]'hlt).toNat : Int) == 32)
      · cases h10 : (((s[k]'hlt).toNat : Int) == 10)
        · cases h35 : (((s[k]'hlt).toNat : Int) == 35)
          · go_wp2_with fail
            go_ret
            refine ⟨?_, rfl⟩
            rw [hto.out, HD.out, skipL_stop h32 h10 h35]; simp
          · have hsz : (s.extract k s.size).size ≤ maxLen := by unfold maxLen; simp; omega
            have hrl : runL lineB (s.extract k s.size).data.toList ≤ s.size - k := by
              rw [extract_end]; have := runL_le lineB (s.data.toList.drop k); simpa using this
            have hr0 : 0 < runL lineB (s.extract k s.size).data.toList := by
              rw [extract_end, HD.out]; exact runL_pos (by simp only [lineB, bne, h10]; rfl)
            have Hq : Hid (skipL s.data.toList = (k + runL lineB (s.extract k s.size).data.toList) + skipL (s.data.toList.drop (k + runL lineB (s.extract k s.size).data.toList))) :=
              Lib.hid (skip_step hto.out (by rw [extract_end, HD.out]; exact skipL_hash h32 h10 h35))
            have Hc := Lib.hid (run_line (s.extract k s.size) w hsz)
            clear hsz
            generalize runL lineB (s.extract k s.size).data.toList = m at *
            go_wp2_with (first | (go_at_call 48; refine (Hc.out).mono ?_; rintro e w' ⟨rfl, rfl⟩))
            go_round
            case rel => exact ⟨k + m, by omega, by go_num, Hq⟩
            case measure => simp [intOf]; omega
        · go_wp2_with fail
          go_round
          case rel => exact ⟨k + 1, by omega, by go_num, Lib.hid (skip_step hto.out (by rw [HD.out, skipL_blank (.inr h10)]; rfl))⟩
          case measure => simp [intOf]; omega
      · go_wp2_with fail
        go_round
        case rel => exact ⟨k + 1, by omega, by go_num, Lib.hid (skip_step hto.out (by rw [HD.out, skipL_blank (.inl h32)]; rfl))⟩
        case measure => simp [intOf]; omega
    · go_wp2_with fail
      go_ret
      refine ⟨?_, rfl⟩
      rw [hto.out, List.drop_of_length_le (by simp; omega), skipL_nil]; simp
end Go.Proofs.YtckkfenchjgfhaaDoor
