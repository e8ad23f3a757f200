/- Great, and Print of the lexer, for tokens that are not great. -/
import Derived.Test.YtckkfenchjgfhaaDoorLexPure4
import Derived.Test.YtckkfenchjgfhaaDoorToks
import Derived.Test.YtckkfenchjgfhaaDoorBuilder
namespace Go.Proofs.YtckkfenchjgfhaaDoor
open Go.RowKit

theorem great_zero (A : Option Addr) (c : Nat) (w : World) :
    Calls Tryd.prog 22 #[.slice A 0 c] w fun e w' => e = .returned (.bool false) ∧ w = w' := by
  go_enter Tryd.func22, Tryd.ntmps22
  go_wp2_with fail
  go_loop [3] (fun i => i = .int .i64 0) (fun _ => 0)
  case atStart => rfl
  case round =>
    subst hrel
    go_wp2_with fail
    go_ret
    exact ⟨rfl, rfl⟩
theorem great_long (A : Option Addr) (n c : Nat) (w : World) (h : 60 < n) :
    Calls Tryd.prog 22 #[.slice A n c] w fun e w' => e = .returned (.bool true) ∧ w = w' := by
  have hd : decide (60 < (n : Int)) = true := by simp; omega
  go_enter Tryd.func22, Tryd.ntmps22
  go_wp2_with fail
  go_ret
  exact ⟨rfl, rfl⟩
set_option maxHeartbeats 400000 in
theorem great_pos (b off c : Nat) (ts : List Tok) (w : World) (hn : ts.length ≤ 60) (hT : ∀ k (h : k < ts.length), TokAt w b (off + k * 3) ts[k]) :
    Calls Tryd.prog 22 #[.slice (some ⟨b, off, none⟩) ts.length c] w fun e w' => e = .returned (.bool (greatL ts)) ∧ w = w' := by
  have hd : decide (60 < (ts.length : Int)) = false := by simp; omega
  have HT := Lib.hid hT
  clear hT
  go_enter Tryd.func22, Tryd.ntmps22
  go_wp2_with fail
  go_loop [3] (fun i => ∃ k : Nat, k ≤ ts.length ∧ i = .int .i64 k ∧ Hid (∀ j (h : j < ts.length), j < k → ts[j].text.length ≤ 120)) (fun i => ts.length - (intOf i).toNat)
  case atStart => exact ⟨0, Nat.zero_le _, rfl, Lib.hid (fun _ _ h => absurd h (by omega))⟩
  case round =>
    obtain ⟨k, hk, rfl, hto⟩ := hrel
    by_cases hlt : k < ts.length
    · obtain ⟨_, a1, _⟩ := HT.out k hlt
      have hki : (k : Int) < (ts.length : Int) := by omega
      have HS : Hid ((⟨ts[k].text.toArray⟩ : ByteArray).size = ts[k].text.length) := Lib.hid (by simp [ByteArray.size])
      by_cases hg : 120 < ts[k].text.length
      · have HF := Lib.hid (greatL_at hlt hg)
        have hg2 : 120 < (⟨ts[k].text.toArray⟩ : ByteArray).size := by rw [HS.out]; exact hg
        generalize (⟨ts[k].text.toArray⟩ : ByteArray) = T at *
        clear hg
        go_wp2_with fail
        go_ret
        exact ⟨by rw [HF.out]; rfl, rfl⟩
      · have hg2 : ¬ 120 < (⟨ts[k].text.toArray⟩ : ByteArray).size := by rw [HS.out]; exact hg
        have HN : Hid (∀ j (h : j < ts.length), j < k + 1 → ts[j].text.length ≤ 120) := Lib.hid (fun j hj hlt' => by
          rcases Nat.lt_or_ge j k with hh | hh
          · exact hto.out j hj hh
          · obtain rfl : j = k := by omega
            omega)
        generalize (⟨ts[k].text.toArray⟩ : ByteArray) = T at *
        clear hg
        go_wp2_with fail
        go_round
        case rel => exact ⟨k + 1, by omega, by go_num, HN⟩
        case measure => simp [intOf]; omega
    · have HF := Lib.hid (greatL_no hn (fun j hj => hto.out j hj (by omega)))
      go_wp2_with fail
      go_ret
      exact ⟨by rw [HF.out]; rfl, rfl⟩
theorem rGreat_any {v : Value} {ts : List Tok} {w : World} (h : ToksAt w v ts) :
    Calls Tryd.prog 22 #[v] w fun e w' => e = .returned (.bool (greatL ts)) ∧ w = w' := by
  obtain ⟨A, c, rfl, _, h3⟩ := h
  rcases Nat.eq_zero_or_pos ts.length with h0 | h0
  · obtain rfl := List.eq_nil_of_length_eq_zero h0
    exact great_zero A c w
  · rcases Nat.lt_or_ge 60 ts.length with h60 | h60
    · rw [greatL_long h60]; exact great_long A _ c w h60
    · obtain ⟨b, off, rfl, _, hT⟩ := h3 h0
      exact great_pos b off c ts w h60 hT
end Go.Proofs.YtckkfenchjgfhaaDoor
