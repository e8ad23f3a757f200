/- The reference's Label. -/
import Derived.Test.YtckkfenchjgfhaaDoorRefB
import Derived.Test.YtckkfenchjgfhaaDoorLexH
namespace Go.Proofs.YtckkfenchjgfhaaDoor
open Go.RowKit

/-- the length of a string value -/
def strLen (v : Value) : Nat := match v with | .string s => s.size | _ => 0
def LabelRel (s : ByteArray) (v i : Value) : Prop := ∃ t : ByteArray, v = .string t ∧ i = .int .i64 (runL noSlashB t.data.toList) ∧ t.size ≤ 90 ∧ (partsL s.data.toList).all (wordL 20) = (partsL t.data.toList).all (wordL 20)
theorem labelL_short {l : List UInt8} (h : l.length ≤ 90) : labelL l = (partsL l).all (wordL 20) := by simp [labelL, h]
theorem rLabel_long (s : ByteArray) (w : World) (h : 90 < s.size) :
    Calls Tryd.prog 14 #[.string s] w fun e w' => e = .returned (.bool (labelL s.data.toList)) ∧ w = w' := by
  have HF := Lib.hid (labelL_long (l := s.data.toList) (by simpa using h))
  go_enter Tryd.func14, Tryd.ntmps14
  go_wp2_with fail
  go_ret
  exact ⟨by rw [HF.out]; rfl, rfl⟩
set_option maxHeartbeats 400000 in
theorem rLabel_short (s : ByteArray) (w : World) (h : s.size ≤ 90) :
    Calls Tryd.prog 14 #[.string s] w fun e w' => e = .returned (.bool (labelL s.data.toList)) ∧ w = w' := by
  have h90 : decide (90 < (s.size : Int)) = false := by simp; omega
  have HL := Lib.hid (labelL_short (l := s.data.toList) (by simpa using h))
  go_enter Tryd.func14, Tryd.ntmps14
  go_wp2_with (first | (go_at_call 32; refine (rslash_any _ _ (by unfold maxLen; omega)).mono ?_; rintro e w' ⟨rfl, rfl⟩))
  go_loop [0, 3] (fun v i => LabelRel s v i) (fun v _ => strLen v)
  case atStart => exact ⟨s, rfl, rfl, h, rfl⟩
  case round =>
    obtain ⟨t, rfl, rfl, ht, hq⟩ := hrel
    have HQ := Lib.hid hq
    clear hq
    have hrl : runL noSlashB t.data.toList ≤ t.size := by have := runL_le noSlashB t.data.toList; simpa using this
    by_cases hlt : runL noSlashB t.data.toList < t.size
    · have HP := Lib.hid (parts_slash (l := t.data.toList) (by simpa using hlt))
      cases hw : wordL 20 (t.data.toList.take (runL noSlashB t.data.toList))
      · have HF : Hid (labelL s.data.toList = false) := Lib.hid (by rw [HL.out, HQ.out, HP.out, List.all_cons, hw]; rfl)
        have Hc : Hid (∀ W, Calls Tryd.prog 30 #[.string (t.extract 0 (runL noSlashB t.data.toList)), .int .i64 20] W fun e w' => e = .returned (.bool false) ∧ W = w') := Lib.hid (fun W => by
          have h1 := rword_any (t.extract 0 (runL noSlashB t.data.toList)) 20 W (by omega)
          rw [extract_list, List.drop_zero, Nat.sub_zero, hw] at h1; exact h1)
        clear hw
        generalize runL noSlashB t.data.toList = n at *
        go_wp2_with (first | (go_at_call 30; refine (Hc.out _).mono ?_; rintro e w' ⟨rfl, rfl⟩))
        go_ret
        exact ⟨by rw [HF.out]; rfl, rfl⟩
      · have Hc : Hid (∀ W, Calls Tryd.prog 30 #[.string (t.extract 0 (runL noSlashB t.data.toList)), .int .i64 20] W fun e w' => e = .returned (.bool true) ∧ W = w') := Lib.hid (fun W => by
          have h1 := rword_any (t.extract 0 (runL noSlashB t.data.toList)) 20 W (by omega)
          rw [extract_list, List.drop_zero, Nat.sub_zero, hw] at h1; exact h1)
        obtain ⟨t2, HT⟩ : ∃ t2, Hid (t2 = t.extract (runL noSlashB t.data.toList + 1) t.size) := ⟨_, Lib.hid rfl⟩
        have HR : Hid ((partsL s.data.toList).all (wordL 20) = (partsL t2.data.toList).all (wordL 20)) := Lib.hid (by rw [HQ.out, HP.out, List.all_cons, hw, HT.out, extract_end]; rfl)
        have hsz : t2.size < t.size := by rw [HT.out]; simp; omega
        have Hs : Hid (∀ W, Calls Tryd.prog 32 #[.string (t.extract (runL noSlashB t.data.toList + 1) t.size)] W fun e w' => e = .returned (.int .i64 (runL noSlashB t2.data.toList)) ∧ W = w') := Lib.hid (fun W => by
          rw [← HT.out]; exact rslash_any t2 W (by unfold maxLen; omega))
        clear hw
        generalize runL noSlashB t.data.toList = n at *
        go_wp2_with (first | (go_at_call 30; refine (Hc.out _).mono ?_; rintro e w' ⟨rfl, rfl⟩) | (go_at_call 32; refine (Hs.out _).mono ?_; rintro e w' ⟨rfl, rfl⟩))
        go_round
        case rel => exact ⟨t2, by rw [HT.out], rfl, by omega, HR.out⟩
        case measure => simp only [strLen]; have := HT.out; rw [this] at hsz; simpa [strLen] using hsz
    · have HF : Hid (labelL s.data.toList = wordL 20 t.data.toList) := Lib.hid (by rw [HL.out, HQ.out, parts_noSlash (by simpa using hlt)]; simp)
      go_wp2_with (first | (go_at_call 30; refine (rword_any _ 20 _ (by omega)).mono ?_; rintro e w' ⟨rfl, rfl⟩))
      go_ret
      exact ⟨by rw [HF.out]; rfl, rfl⟩
theorem rLabel_any (s : ByteArray) (w : World) :
    Calls Tryd.prog 14 #[.string s] w fun e w' => e = .returned (.bool (labelL s.data.toList)) ∧ w = w' := by
  rcases Nat.lt_or_ge 90 s.size with h | h
  · exact rLabel_long s w h
  · exact rLabel_short s w h
end Go.Proofs.YtckkfenchjgfhaaDoor
