/- The reference's run and number. -/
import Derived.Test.YtckkfenchjgfhaaDoorRefB
import Derived.Test.YtckkfenchjgfhaaDoorLexF
namespace Go.Proofs.YtckkfenchjgfhaaDoor
open Go.RowKit

set_option maxHeartbeats 400000 in
theorem rrun_any (s : ByteArray) (i : Nat) (w : World) (hs : s.size ≤ maxLen) (hi : i ≤ s.size) :
    Calls Tryd.prog 51 #[.string s, .int .i64 i] w fun e w' => e = .returned (.int .i64 ((i + runL innerB (s.data.toList.drop i) : Nat) : Int)) ∧ w = w' := by
  unfold maxLen at hs
  go_enter Tryd.func51, Tryd.ntmps51
  go_wp2_with fail
  go_loop [1] (fun v => ∃ k : Nat, i + k ≤ s.size ∧ v = .int .i64 ((i + k : Nat) : Int) ∧ runTo innerB (s.data.toList.drop i) k) (fun v => s.size - (intOf v).toNat)
  case atStart => exact ⟨0, hi, rfl, runTo_zero _ _⟩
  case round =>
    obtain ⟨k, hk, rfl, hto⟩ := hrel
    by_cases hlt : i + k < s.size
    · have HG : Hid (∀ h, (s.data.toList.drop i)[k]'h = s[i + k]) := Lib.hid (fun h => by rw [List.getElem_drop]; rfl)
      cases hr : isRunning ((s[i + k]'hlt).toNat : Int)
      · have Hf := Lib.hid (runL_eq (p := innerB) (l := s.data.toList.drop i) (k := k) (by simp; omega) hto (fun h => by rw [HG.out h]; exact hr))
        go_wp2_with (first | (go_at_call 69; refine (rinner_any _ _).mono ?_; rintro e w' ⟨rfl, rfl⟩))
        go_ret
        exact ⟨by rw [Hf.out]; rfl, rfl⟩
      · go_wp2_with (first | (go_at_call 69; refine (rinner_any _ _).mono ?_; rintro e w' ⟨rfl, rfl⟩))
        go_round
        case rel =>
          refine ⟨k + 1, by omega, by go_num, fun j hj hlt' => ?_⟩
          rcases Nat.lt_or_ge j k with hh | hh
          · exact hto j hj hh
          · obtain rfl : j = k := by omega
            rw [HG.out hj]; exact hr
        case measure => simp [intOf]; omega
    · have Hf := Lib.hid (runL_eq (p := innerB) (l := s.data.toList.drop i) (k := k) (by simp; omega) hto (fun h => absurd h (by simp; omega)))
      go_wp2_with fail
      go_ret
      exact ⟨by rw [Hf.out]; rfl, rfl⟩

theorem prefix45 {s : ByteArray} (h0 : 0 < s.size) (h : (((s[0]'h0).toNat : Int) == 45) = true) : Lib.hasPrefix s.data.toList [45] = true := by
  have h1 := drop_get s 0 h0
  rw [List.drop_zero] at h1
  rw [h1]
  have : s[0] = 45 := by
    simp at h
    exact UInt8.toNat_inj.1 (by simp; omega)
  simp [Lib.hasPrefix, this]
theorem prefix45' {s : ByteArray} (h0 : 0 < s.size) (h : (((s[0]'h0).toNat : Int) == 45) = false) : Lib.hasPrefix s.data.toList [45] = false := by
  have h1 := drop_get s 0 h0
  rw [List.drop_zero] at h1
  rw [h1]
  have : s[0] ≠ 45 := fun e => by rw [e] at h; simp at h
  have h2 : ¬ (45 : UInt8) = s[0] := fun e => this e.symm
  unfold Lib.hasPrefix
  rw [List.isPrefixOf, beq_eq_false_iff_ne.2 h2]; rfl

-- with a sign
theorem rnumber_neg_zero (s : ByteArray) (w : World) (h1 : 1 < s.size) (hm : (((s[0]'(by omega)).toNat : Int) == 45) = true) (hz : ((((s.extract 1 s.size)[0]'(by simp; omega)).toNat : Int) == 48) = true) :
    Calls Tryd.prog 57 #[.string s] w fun e w' => e = .returned (.bool (numberL s.data.toList)) ∧ w = w' := by
  have hg : decide (1 < (s.size : Int)) = true := by simp; omega
  have hl0 : 0 < s.size - 1 := by omega
  have hzi : (0 : Int) < s.size := by omega
  have HN : Hid (numberL s.data.toList = false) := Lib.hid (by
    rw [numberL_neg (prefix45 (by omega) hm), tail_extract, head_get (by simp; omega), byte48 hz]
    simp)
  go_enter Tryd.func57, Tryd.ntmps57
  go_wp2_with fail
  go_ret
  exact ⟨by rw [HN.out]; rfl, rfl⟩
theorem rnumber_neg_long (s : ByteArray) (w : World) (h1 : 10 < s.size) (hm : (((s[0]'(by omega)).toNat : Int) == 45) = true) (hz : ((((s.extract 1 s.size)[0]'(by simp; omega)).toNat : Int) == 48) = false) :
    Calls Tryd.prog 57 #[.string s] w fun e w' => e = .returned (.bool (numberL s.data.toList)) ∧ w = w' := by
  have hg : decide (1 < (s.size : Int)) = true := by simp; omega
  have hl0 : 0 < s.size - 1 := by omega
  have hzi : (0 : Int) < s.size := by omega
  have hlt1 : decide (((s.size - 1 : Nat) : Int) < 1) = false := by simp; omega
  have hgt : decide (9 < ((s.size - 1 : Nat) : Int)) = true := by simp; omega
  have HN : Hid (numberL s.data.toList = false) := Lib.hid (by
    rw [numberL_neg (prefix45 (by omega) hm), numCore_long (by simp; omega)]; rfl)
  go_enter Tryd.func57, Tryd.ntmps57
  go_wp2_with fail
  go_ret
  exact ⟨by rw [HN.out]; rfl, rfl⟩
set_option maxHeartbeats 400000 in
theorem rnumber_neg_more (s : ByteArray) (w : World) (h1 : 1 < s.size) (h9 : s.size ≤ 10) (hm : (((s[0]'(by omega)).toNat : Int) == 45) = true) (hz : ((((s.extract 1 s.size)[0]'(by simp; omega)).toNat : Int) == 48) = false) :
    Calls Tryd.prog 57 #[.string s] w fun e w' => e = .returned (.bool (numberL s.data.toList)) ∧ w = w' := by
  have hg : decide (1 < (s.size : Int)) = true := by simp; omega
  have hl0 : 0 < s.size - 1 := by omega
  have hzi : (0 : Int) < s.size := by omega
  have hlt1 : decide (((s.size - 1 : Nat) : Int) < 1) = false := by simp; omega
  have hgt : decide (9 < ((s.size - 1 : Nat) : Int)) = false := by simp; omega
  have HE : Hid (numberL s.data.toList = numCore (s.extract 1 s.size).data.toList) := Lib.hid (by
    rw [numberL_neg (prefix45 (by omega) hm), tail_extract, head_get (by simp; omega), byte48' hz]
    simp)
  have HNf : Hid (∀ j (hj : j < (s.extract 1 s.size).data.toList.length), digitB ((s.extract 1 s.size).data.toList[j]) = false → numberL s.data.toList = false) := Lib.hid (fun j hj hd => by rw [HE.out, numCore_no hj hd])
  have HNt : Hid ((∀ j (hj : j < (s.extract 1 s.size).data.toList.length), digitB ((s.extract 1 s.size).data.toList[j]) = true) → numberL s.data.toList = true) := Lib.hid (fun hd => by
    rw [HE.out, numCore_yes (by simp; omega) (by simp; omega) (by rw [head_get (by simp; omega), byte48' hz]; rfl) hd])
  have HSZ : Hid ((s.extract 1 s.size).size = s.size - 1) := Lib.hid (by simp)
  by_cases hone : 1 < s.size - 1
  · have hg1 : decide (1 < ((s.size - 1 : Nat) : Int)) = true := by simp; omega
    go_enter Tryd.func57, Tryd.ntmps57
    go_wp2_with fail
    go_loop [3] (fun i => ∃ k : Nat, k ≤ (s.extract 1 s.size).size ∧ i = .int .i64 k ∧ runTo digitB (s.extract 1 s.size).data.toList k) (fun i => (s.extract 1 s.size).size - (intOf i).toNat)
    case atStart => exact ⟨0, Nat.zero_le _, rfl, runTo_zero _ _⟩
    case round =>
      obtain ⟨k, hk, rfl, hto⟩ := hrel
      by_cases hlt : k < (s.extract 1 s.size).size
      · have hlt2 : k < s.size - 1 :=  by have e := HSZ.out; omega
        cases hd : isDigit (((s.extract 1 s.size)[k]'hlt).toNat : Int)
        · have HF := Lib.hid (HNf.out k (by simpa using hlt) hd)
          go_wp2_with (first | (go_at_call 46; refine (rdigit_no _ _ hd).mono ?_; rintro e w' ⟨rfl, rfl⟩))
          go_ret
          exact ⟨by rw [HF.out]; rfl, rfl⟩
        · go_wp2_with (first | (go_at_call 46; refine (rdigit_yes _ _ hd).mono ?_; rintro e w' ⟨rfl, rfl⟩))
          go_round
          case rel => exact ⟨k + 1, by omega, by go_num, runTo_step hlt hto hd⟩
          case measure => have e := HSZ.out; simp [intOf]; omega
      · have hge2 : s.size - 1 ≤ k := by have e := HSZ.out; omega
        have HF := Lib.hid (HNt.out (fun j hj => hto j hj (by have e := HSZ.out; simp at hj; omega)))
        go_wp2_with fail
        go_ret
        exact ⟨by rw [HF.out]; rfl, rfl⟩
  · have hg1 : decide (1 < ((s.size - 1 : Nat) : Int)) = false := by simp; omega
    go_enter Tryd.func57, Tryd.ntmps57
    go_wp2_with fail
    go_loop [3] (fun i => ∃ k : Nat, k ≤ (s.extract 1 s.size).size ∧ i = .int .i64 k ∧ runTo digitB (s.extract 1 s.size).data.toList k) (fun i => (s.extract 1 s.size).size - (intOf i).toNat)
    case atStart => exact ⟨0, Nat.zero_le _, rfl, runTo_zero _ _⟩
    case round =>
      obtain ⟨k, hk, rfl, hto⟩ := hrel
      by_cases hlt : k < (s.extract 1 s.size).size
      · have hlt2 : k < s.size - 1 :=  by have e := HSZ.out; omega
        cases hd : isDigit (((s.extract 1 s.size)[k]'hlt).toNat : Int)
        · have HF := Lib.hid (HNf.out k (by simpa using hlt) hd)
          go_wp2_with (first | (go_at_call 46; refine (rdigit_no _ _ hd).mono ?_; rintro e w' ⟨rfl, rfl⟩))
          go_ret
          exact ⟨by rw [HF.out]; rfl, rfl⟩
        · go_wp2_with (first | (go_at_call 46; refine (rdigit_yes _ _ hd).mono ?_; rintro e w' ⟨rfl, rfl⟩))
          go_round
          case rel => exact ⟨k + 1, by omega, by go_num, runTo_step hlt hto hd⟩
          case measure => have e := HSZ.out; simp [intOf]; omega
      · have hge2 : s.size - 1 ≤ k := by have e := HSZ.out; omega
        have HF := Lib.hid (HNt.out (fun j hj => hto j hj (by have e := HSZ.out; simp at hj; omega)))
        go_wp2_with fail
        go_ret
        exact ⟨by rw [HF.out]; rfl, rfl⟩
-- without a sign
theorem rnumber_nil (s : ByteArray) (w : World) (h : s.size = 0) :
    Calls Tryd.prog 57 #[.string s] w fun e w' => e = .returned (.bool (numberL s.data.toList)) ∧ w = w' := by
  have hg : decide (1 < (s.size : Int)) = false := by simp; omega
  have hlt1 : decide ((s.size : Int) < 1) = true := by simp; omega
  have HN : Hid (numberL s.data.toList = false) := Lib.hid (by
    have : s.data.toList = [] := List.eq_nil_of_length_eq_zero (by simpa using h)
    rw [this]; rfl)
  clear h
  go_enter Tryd.func57, Tryd.ntmps57
  go_wp2_with fail
  go_ret
  exact ⟨by rw [HN.out]; rfl, rfl⟩
theorem rnumber_long (s : ByteArray) (w : World) (h : 9 < s.size) (hm : (((s[0]'(by omega)).toNat : Int) == 45) = false) :
    Calls Tryd.prog 57 #[.string s] w fun e w' => e = .returned (.bool (numberL s.data.toList)) ∧ w = w' := by
  have hg : decide (1 < (s.size : Int)) = true := by simp; omega
  have hlt1 : decide ((s.size : Int) < 1) = false := by simp; omega
  have hgt : decide (9 < (s.size : Int)) = true := by simp; omega
  have hzi : (0 : Int) < s.size := by omega
  have HN : Hid (numberL s.data.toList = false) := Lib.hid (by rw [numberL_pos (prefix45' (by omega) hm), numCore_long (by simp; omega)])
  go_enter Tryd.func57, Tryd.ntmps57
  go_wp2_with fail
  go_ret
  exact ⟨by rw [HN.out]; rfl, rfl⟩
theorem rnumber_zero (s : ByteArray) (w : World) (h : 1 < s.size) (h9 : s.size ≤ 9) (hm : (((s[0]'(by omega)).toNat : Int) == 45) = false) (hz : (((s[0]'(by omega)).toNat : Int) == 48) = true) :
    Calls Tryd.prog 57 #[.string s] w fun e w' => e = .returned (.bool (numberL s.data.toList)) ∧ w = w' := by
  have hg : decide (1 < (s.size : Int)) = true := by simp; omega
  have hlt1 : decide ((s.size : Int) < 1) = false := by simp; omega
  have hgt : decide (9 < (s.size : Int)) = false := by simp; omega
  have hzi : (0 : Int) < s.size := by omega
  have HN : Hid (numberL s.data.toList = false) := Lib.hid (by
    rw [numberL_pos (prefix45' (by omega) hm), numCore_zero]
    rw [head_get (by omega), byte48 hz]
    simp [h])
  go_enter Tryd.func57, Tryd.ntmps57
  go_wp2_with fail
  go_ret
  exact ⟨by rw [HN.out]; rfl, rfl⟩
set_option maxHeartbeats 400000 in
theorem rnumber_more (t : ByteArray) (w : World) (h : 1 < t.size) (h9 : t.size ≤ 9) (hm : (((t[0]'(by omega)).toNat : Int) == 45) = false) (hz : (((t[0]'(by omega)).toNat : Int) == 48) = false) :
    Calls Tryd.prog 57 #[.string t] w fun e w' => e = .returned (.bool (numberL t.data.toList)) ∧ w = w' := by
  have hg : decide (1 < (t.size : Int)) = true := by simp; omega
  have hlt1 : decide ((t.size : Int) < 1) = false := by simp; omega
  have hgt : decide (9 < (t.size : Int)) = false := by simp; omega
  have hzi : (0 : Int) < t.size := by omega
  have HE : Hid (numberL t.data.toList = numCore t.data.toList) := Lib.hid (numberL_pos (prefix45' (by omega) hm))
  have HNf : Hid (∀ j (hj : j < t.data.toList.length), digitB (t.data.toList[j]) = false → numberL t.data.toList = false) := Lib.hid (fun j hj hd => by rw [HE.out, numCore_no hj hd])
  have HNt : Hid ((∀ j (hj : j < t.data.toList.length), digitB (t.data.toList[j]) = true) → numberL t.data.toList = true) := Lib.hid (fun hd => by
    rw [HE.out, numCore_yes (by simp; omega) (by simp; omega) (by rw [head_get (by omega), byte48' hz]; rfl) hd])
  have HSZ : Hid (t.size = t.size) := Lib.hid rfl
  go_enter Tryd.func57, Tryd.ntmps57
  go_wp2_with fail
  go_loop [3] (fun i => ∃ k : Nat, k ≤ t.size ∧ i = .int .i64 k ∧ runTo digitB t.data.toList k) (fun i => t.size - (intOf i).toNat)
  case atStart => exact ⟨0, Nat.zero_le _, rfl, runTo_zero _ _⟩
  case round =>
    obtain ⟨k, hk, rfl, hto⟩ := hrel
    by_cases hlt : k < t.size
    · have hlt2 : k < t.size :=  by have e := HSZ.out; omega
      cases hd : isDigit ((t[k]'hlt).toNat : Int)
      · have HF := Lib.hid (HNf.out k (by simpa using hlt) hd)
        go_wp2_with (first | (go_at_call 46; refine (rdigit_no _ _ hd).mono ?_; rintro e w' ⟨rfl, rfl⟩))
        go_ret
        exact ⟨by rw [HF.out]; rfl, rfl⟩
      · go_wp2_with (first | (go_at_call 46; refine (rdigit_yes _ _ hd).mono ?_; rintro e w' ⟨rfl, rfl⟩))
        go_round
        case rel => exact ⟨k + 1, by omega, by go_num, runTo_step hlt hto hd⟩
        case measure => have e := HSZ.out; simp [intOf]; omega
    · have hge2 : t.size ≤ k := by have e := HSZ.out; omega
      have HF := Lib.hid (HNt.out (fun j hj => hto j hj (by have e := HSZ.out; simp at hj; omega)))
      go_wp2_with fail
      go_ret
      exact ⟨by rw [HF.out]; rfl, rfl⟩
set_option maxHeartbeats 400000 in
theorem rnumber_one (t : ByteArray) (w : World) (h : 1 ≤ t.size) (h1 : t.size ≤ 1) :
    Calls Tryd.prog 57 #[.string t] w fun e w' => e = .returned (.bool (numberL t.data.toList)) ∧ w = w' := by
  have hg : decide (1 < (t.size : Int)) = false := by simp; omega
  have hlt1 : decide ((t.size : Int) < 1) = false := by simp; omega
  have hgt : decide (9 < (t.size : Int)) = false := by simp; omega
  have HNf : Hid (∀ j (hj : j < t.data.toList.length), digitB (t.data.toList[j]) = false → numberL t.data.toList = false) := Lib.hid (fun j hj hd => by
    cases hm : (((t[0]'(by omega)).toNat : Int) == 45)
    · rw [numberL_pos (prefix45' (by omega) hm), numCore_no hj hd]
    · rw [numberL_neg (prefix45 (by omega) hm), numCore_nil (by simp; omega)]; rfl)
  have HNt : Hid ((∀ j (hj : j < t.data.toList.length), digitB (t.data.toList[j]) = true) → numberL t.data.toList = true) := Lib.hid (fun hd => by
    cases hm : (((t[0]'(by omega)).toNat : Int) == 45)
    · rw [numberL_pos (prefix45' (by omega) hm), numCore_yes (by simp; omega) (by simp; omega) (by rw [Bool.and_eq_false_iff]; right; simp; omega) hd]
    · have h3 := hd 0 (by simp; omega)
      rw [toList_get t 0 (by omega)] at h3
      simp [digitB, isDigit] at h3 hm
      omega)
  have HSZ : Hid (t.size = t.size) := Lib.hid rfl
  go_enter Tryd.func57, Tryd.ntmps57
  go_wp2_with fail
  go_loop [3] (fun i => ∃ k : Nat, k ≤ t.size ∧ i = .int .i64 k ∧ runTo digitB t.data.toList k) (fun i => t.size - (intOf i).toNat)
  case atStart => exact ⟨0, Nat.zero_le _, rfl, runTo_zero _ _⟩
  case round =>
    obtain ⟨k, hk, rfl, hto⟩ := hrel
    by_cases hlt : k < t.size
    · have hlt2 : k < t.size :=  by have e := HSZ.out; omega
      cases hd : isDigit ((t[k]'hlt).toNat : Int)
      · have HF := Lib.hid (HNf.out k (by simpa using hlt) hd)
        go_wp2_with (first | (go_at_call 46; refine (rdigit_no _ _ hd).mono ?_; rintro e w' ⟨rfl, rfl⟩))
        go_ret
        exact ⟨by rw [HF.out]; rfl, rfl⟩
      · go_wp2_with (first | (go_at_call 46; refine (rdigit_yes _ _ hd).mono ?_; rintro e w' ⟨rfl, rfl⟩))
        go_round
        case rel => exact ⟨k + 1, by omega, by go_num, runTo_step hlt hto hd⟩
        case measure => have e := HSZ.out; simp [intOf]; omega
    · have hge2 : t.size ≤ k := by have e := HSZ.out; omega
      have HF := Lib.hid (HNt.out (fun j hj => hto j hj (by have e := HSZ.out; simp at hj; omega)))
      go_wp2_with fail
      go_ret
      exact ⟨by rw [HF.out]; rfl, rfl⟩
theorem rnumber_any (s : ByteArray) (w : World) :
    Calls Tryd.prog 57 #[.string s] w fun e w' => e = .returned (.bool (numberL s.data.toList)) ∧ w = w' := by
  rcases Nat.eq_zero_or_pos s.size with h0 | h0
  · exact rnumber_nil s w h0
  · rcases Nat.lt_or_ge 1 s.size with h1 | h1
    · cases hm : (((s[0]'(by omega)).toNat : Int) == 45)
      · rcases Nat.lt_or_ge 9 s.size with h9 | h9
        · exact rnumber_long s w h9 hm
        · cases hz : (((s[0]'(by omega)).toNat : Int) == 48)
          · exact rnumber_more s w h1 h9 hm hz
          · exact rnumber_zero s w h1 h9 hm hz
      · cases hz : ((((s.extract 1 s.size)[0]'(by simp; omega)).toNat : Int) == 48)
        · rcases Nat.lt_or_ge 10 s.size with h9 | h9
          · exact rnumber_neg_long s w h9 hm hz
          · exact rnumber_neg_more s w h1 h9 hm hz
        · exact rnumber_neg_zero s w h1 hm hz
    · exact rnumber_one s w h0 h1
end Go.Proofs.YtckkfenchjgfhaaDoor
