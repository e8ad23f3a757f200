/- sign and number of the lexer, for every string. -/
import Derived.Test.YtckkfenchjgfhaaDoorLexD
import Derived.Test.YtckkfenchjgfhaaDoorShelf
namespace Go.Proofs.YtckkfenchjgfhaaDoor
open Go.RowKit

theorem signL_two {l : List UInt8} (h : Lib.hasPrefix l [45, 62] = true ∨ Lib.hasPrefix l [58, 58] = true ∨ Lib.hasPrefix l [124, 124] = true) : signL l = 2 := by
  unfold signL; rw [if_pos]; rcases h with h | h | h <;> simp [h]
theorem signL_nil {l : List UInt8} (h : l.length = 0) : signL l = 0 := by
  obtain rfl := List.eq_nil_of_length_eq_zero h; rfl
theorem signL_one {s : ByteArray} (h0 : 0 < s.size) (h1 : Lib.hasPrefix s.data.toList [45, 62] = false) (h2 : Lib.hasPrefix s.data.toList [58, 58] = false) (h3 : Lib.hasPrefix s.data.toList [124, 124] = false) :
    signL s.data.toList = if decide ((0 : Int) ≤ Lib.indexByte onesL s[0]) then 1 else 0 := by
  unfold signL
  rw [if_neg (by simp [h1, h2, h3])]
  have := drop_get s 0 h0
  rw [List.drop_zero] at this
  rw [this]
theorem hasPrefix_any (s p : ByteArray) (w : World) :
    Calls Tryd.prog 55 #[.string s, .string p] w fun e w' => e = .returned (.bool (Lib.hasPrefix s.data.toList p.data.toList)) ∧ w = w' :=
  (Tryd.strings_HasPrefix s p w).mono fun _ _ ⟨h1, h2⟩ => ⟨h1, h2.symm⟩
theorem contains_one (s : ByteArray) (c : UInt8) (w : World) :
    Calls Tryd.prog 18 #[.string s, .string ⟨#[c]⟩] w fun e w' => e = .returned (.bool (decide ((0 : Int) ≤ Lib.indexByte s.data.toList c))) ∧ w = w' :=
  (Tryd.strings_Contains_one s c w).mono fun _ _ ⟨h1, h2⟩ => ⟨h1, h2.symm⟩
theorem byteBack (c : UInt8) : (c.toNat : Int).toNat.toUInt8 = c := by simp
theorem ones_any (c : UInt8) (w : World) :
    Calls Tryd.prog 56 #[.string ⟨#[40, 41, 61, 43, 45, 42, 60, 124, 46, 59, 64]⟩, .int .u8 (c.toNat : Int)] w fun e w' => e = .returned (.int .i64 (Lib.indexByte onesL c)) ∧ w = w' :=
  (Tryd.strings_IndexByte _ _ w).mono fun e w' ⟨h1, h2⟩ => ⟨by rw [h1, byteBack]; rfl, h2.symm⟩
def NoPre (s : ByteArray) (p : List UInt8) : Prop := Lib.hasPrefix s.data.toList p = false
set_option maxHeartbeats 400000 in
theorem sign_any (s : ByteArray) (w : World) :
    Calls Tryd.prog 39 #[.string s] w fun e w' => e = .returned (.int .i64 (signL s.data.toList)) ∧ w = w' := by
  have i0 : ∀ w, (Instr.index 71 (.agg #[.string ⟨#[45, 62]⟩, .string ⟨#[58, 58]⟩, .string ⟨#[124, 124]⟩]) (.int .i64 0)).run Tryd.prog w = .ok (.string ⟨#[45, 62]⟩) w := fun _ => by kernel_rfl
  have i1 : ∀ w, (Instr.index 71 (.agg #[.string ⟨#[45, 62]⟩, .string ⟨#[58, 58]⟩, .string ⟨#[124, 124]⟩]) (.int .i64 1)).run Tryd.prog w = .ok (.string ⟨#[58, 58]⟩) w := fun _ => by kernel_rfl
  have i2 : ∀ w, (Instr.index 71 (.agg #[.string ⟨#[45, 62]⟩, .string ⟨#[58, 58]⟩, .string ⟨#[124, 124]⟩]) (.int .i64 2)).run Tryd.prog w = .ok (.string ⟨#[124, 124]⟩) w := fun _ => by kernel_rfl
  go_enter Tryd.func39, Tryd.ntmps39
  go_wp2_with fail
  go_loop [4, 6] (fun _ i => i = .int .i64 0 ∨ (i = .int .i64 1 ∧ NoPre s [45, 62]) ∨ (i = .int .i64 2 ∧ NoPre s [45, 62] ∧ NoPre s [58, 58])
     ∨ (i = .int .i64 3 ∧ NoPre s [45, 62] ∧ NoPre s [58, 58] ∧ NoPre s [124, 124])) (fun _ i => 3 - (intOf i).toNat)
  case atStart => exact .inl rfl
  case round =>
    rcases hrel with rfl | ⟨rfl, k0⟩ | ⟨rfl, k0, k1⟩ | ⟨rfl, k0, k1, k2⟩
    · cases hp : Lib.hasPrefix s.data.toList [45, 62]
      · go_wp2_with (first | (go_at_call 55; refine (hasPrefix_any _ _ _).mono ?_; rintro e w' ⟨rfl, rfl⟩))
        go_round
        case rel => exact .inr (.inl ⟨rfl, hp⟩)
        case measure => simp [intOf]
      · go_wp2_with (first | (go_at_call 55; refine (hasPrefix_any _ _ _).mono ?_; rintro e w' ⟨rfl, rfl⟩))
        go_ret
        exact ⟨by rw [signL_two (.inl hp)]; rfl, rfl⟩
    · cases hp : Lib.hasPrefix s.data.toList [58, 58]
      · go_wp2_with (first | (go_at_call 55; refine (hasPrefix_any _ _ _).mono ?_; rintro e w' ⟨rfl, rfl⟩))
        go_round
        case rel => exact .inr (.inr (.inl ⟨rfl, k0, hp⟩))
        case measure => simp [intOf]
      · go_wp2_with (first | (go_at_call 55; refine (hasPrefix_any _ _ _).mono ?_; rintro e w' ⟨rfl, rfl⟩))
        go_ret
        exact ⟨by rw [signL_two (.inr (.inl hp))]; rfl, rfl⟩
    · cases hp : Lib.hasPrefix s.data.toList [124, 124]
      · go_wp2_with (first | (go_at_call 55; refine (hasPrefix_any _ _ _).mono ?_; rintro e w' ⟨rfl, rfl⟩))
        go_round
        case rel => exact .inr (.inr (.inr ⟨rfl, k0, k1, hp⟩))
        case measure => simp [intOf]
      · go_wp2_with (first | (go_at_call 55; refine (hasPrefix_any _ _ _).mono ?_; rintro e w' ⟨rfl, rfl⟩))
        go_ret
        exact ⟨by rw [signL_two (.inr (.inr hp))]; rfl, rfl⟩
    · rcases Nat.eq_zero_or_pos s.size with hz | hz
      · have h0 := empty_yes s hz
        have Hf := Lib.hid (signL_nil (l := s.data.toList) (by simpa using hz))
        clear hz
        go_wp2_with fail
        go_ret
        exact ⟨by rw [Hf.out]; rfl, rfl⟩
      · have h0 := empty_no s hz
        have Hf := Lib.hid (signL_one hz k0 k1 k2)
        have hge := Lib.indexByte_ge onesL (s[0]'hz)
        cases hi : decide ((0 : Int) ≤ Lib.indexByte onesL (s[0]'hz))
        · have hn : ¬ (0 : Int) ≤ Lib.indexByte onesL (s[0]'hz) := by simpa using hi
          rw [hi] at Hf
          clear hi
          have Hc := Lib.hid (ones_any (s[0]'hz) w)
          generalize Lib.indexByte onesL (s[0]'hz) = m at *
          go_wp2_with (first | (go_at_call 56; refine (Hc.out).mono ?_; rintro e w' ⟨rfl, rfl⟩))
          go_ret
          exact ⟨by rw [Hf.out]; rfl, rfl⟩
        · have hn : (0 : Int) ≤ Lib.indexByte onesL (s[0]'hz) := by simpa using hi
          rw [hi] at Hf
          clear hi
          have Hc := Lib.hid (ones_any (s[0]'hz) w)
          generalize Lib.indexByte onesL (s[0]'hz) = m at *
          go_wp2_with (first | (go_at_call 56; refine (Hc.out).mono ?_; rintro e w' ⟨rfl, rfl⟩))
          go_ret
          exact ⟨by rw [Hf.out]; rfl, rfl⟩
end Go.Proofs.YtckkfenchjgfhaaDoor
