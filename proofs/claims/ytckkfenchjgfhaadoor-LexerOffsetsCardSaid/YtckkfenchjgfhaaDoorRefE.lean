/- The reference's sign. -/
import Derived.Test.YtckkfenchjgfhaaDoorRefD
import Derived.Test.YtckkfenchjgfhaaDoorLexPure3
import Derived.Test.YtckkfenchjgfhaaDoorLexI
namespace Go.Proofs.YtckkfenchjgfhaaDoor
open Go.RowKit

def signsL : List (List UInt8) := [[45, 62], [58, 58], [124, 124], [40], [41], [61], [43], [45], [42], [60], [124], [46], [59], [64]]
def sigAt (k : Nat) : ByteArray := ⟨(signsL.getD k []).toArray⟩
def NoSig (l : List UInt8) (k : Nat) : Prop := ∀ j, j < k → Lib.hasPrefix l (signsL.getD j []) = false
theorem head_of_prefix {l : List UInt8} {c : UInt8} (h : Lib.hasPrefix l [c] = true) : ∃ r, l = c :: r := by
  cases l with
  | nil => simp [Lib.hasPrefix] at h
  | cons d r => refine ⟨r, ?_⟩; simp [Lib.hasPrefix] at h; rw [h]
theorem signL_sig {l : List UInt8} {k : Nat} (hk : k < 14) (h : NoSig l k) (hp : Lib.hasPrefix l (signsL.getD k []) = true) : signL l = (signsL.getD k []).length := by
  by_cases h3 : k < 3
  · have : signL l = 2 := signL_two (by
      have : k = 0 ∨ k = 1 ∨ k = 2 := by omega
      rcases this with rfl | rfl | rfl
      · exact .inl hp
      · exact .inr (.inl hp)
      · exact .inr (.inr hp))
    rw [this]
    have : k = 0 ∨ k = 1 ∨ k = 2 := by omega
    rcases this with rfl | rfl | rfl <;> rfl
  · have e0 := h 0 (by omega)
    have e1 := h 1 (by omega)
    have e2 := h 2 (by omega)
    simp only [signsL, List.getD_cons_zero, List.getD_cons_succ] at e0 e1 e2
    have one : ∀ c r, l = c :: r → 0 ≤ Lib.indexByte onesL c → signL l = 1 := fun c r e hi => by
      subst e
      unfold signL
      rw [if_neg (by simp [e0, e1, e2])]
      simp [hi]
    have : k = 3 ∨ k = 4 ∨ k = 5 ∨ k = 6 ∨ k = 7 ∨ k = 8 ∨ k = 9 ∨ k = 10 ∨ k = 11 ∨ k = 12 ∨ k = 13 := by omega
    rcases this with rfl | rfl | rfl | rfl | rfl | rfl | rfl | rfl | rfl | rfl | rfl
    all_goals
      obtain ⟨r, hr⟩ := head_of_prefix hp
      rw [one _ r hr (by decide)]
      rfl
theorem index_mem {c : UInt8} : ∀ {l : List UInt8}, 0 ≤ Lib.indexByte l c → c ∈ l
  | [], h => by simp [Lib.indexByte] at h
  | b :: l, h => by
    unfold Lib.indexByte at h
    by_cases hb : (b == c) = true
    · rw [eq_of_beq hb]; simp
    · rw [if_neg hb] at h
      by_cases hl : (Lib.indexByte l c == -1) = true
      · rw [if_pos hl] at h; simp at h
      · have := Lib.indexByte_ge l c
        have h2 : 0 ≤ Lib.indexByte l c := by simp at hl; omega
        exact List.mem_cons_of_mem _ (index_mem h2)
theorem signL_none {l : List UInt8} (h : NoSig l 14) : signL l = 0 := by
  have e0 := h 0 (by omega)
  have e1 := h 1 (by omega)
  have e2 := h 2 (by omega)
  simp only [signsL, List.getD_cons_zero, List.getD_cons_succ] at e0 e1 e2
  unfold signL
  rw [if_neg (by simp [e0, e1, e2])]
  cases l with
  | nil => rfl
  | cons c r =>
    by_cases hi : 0 ≤ Lib.indexByte onesL c
    · have hm := index_mem hi
      have pre : ∀ d, c = d → Lib.hasPrefix (c :: r) [d] = true := fun d e => by subst e; simp [Lib.hasPrefix]
      simp only [onesL, List.mem_cons, List.not_mem_nil, or_false] at hm
      rcases hm with e | e | e | e | e | e | e | e | e | e | e
      · have := h 3 (by omega); rw [show signsL.getD 3 [] = [40] from rfl, pre _ e] at this; cases this
      · have := h 4 (by omega); rw [show signsL.getD 4 [] = [41] from rfl, pre _ e] at this; cases this
      · have := h 5 (by omega); rw [show signsL.getD 5 [] = [61] from rfl, pre _ e] at this; cases this
      · have := h 6 (by omega); rw [show signsL.getD 6 [] = [43] from rfl, pre _ e] at this; cases this
      · have := h 7 (by omega); rw [show signsL.getD 7 [] = [45] from rfl, pre _ e] at this; cases this
      · have := h 8 (by omega); rw [show signsL.getD 8 [] = [42] from rfl, pre _ e] at this; cases this
      · have := h 9 (by omega); rw [show signsL.getD 9 [] = [60] from rfl, pre _ e] at this; cases this
      · have := h 10 (by omega); rw [show signsL.getD 10 [] = [124] from rfl, pre _ e] at this; cases this
      · have := h 11 (by omega); rw [show signsL.getD 11 [] = [46] from rfl, pre _ e] at this; cases this
      · have := h 12 (by omega); rw [show signsL.getD 12 [] = [59] from rfl, pre _ e] at this; cases this
      · have := h 13 (by omega); rw [show signsL.getD 13 [] = [64] from rfl, pre _ e] at this; cases this
    · simp [hi]
def SigsAt (b : Nat) (w : World) : Prop := ∀ k, k < 14 → w.cell? ⟨b, k, none⟩ = some (.string (sigAt k))
theorem rSigns_any (w : World) : Calls Tryd.prog 70 #[] w fun e w' => e = .returned (.slice (some ⟨w.heap.size, 0, none⟩) 14 14) ∧ SigsAt w.heap.size w' ∧ Below w.heap.size w w' ∧ w.heap.size < w'.heap.size := by
  go_enter Tryd.func70, Tryd.ntmps70
  go_wp2_with fail
  go_ret
  refine ⟨rfl, fun k hk => ?_, (Below.refl _ _).alloc (Nat.le_refl _) _, by simp⟩
  have : k = 0 ∨ k = 1 ∨ k = 2 ∨ k = 3 ∨ k = 4 ∨ k = 5 ∨ k = 6 ∨ k = 7 ∨ k = 8 ∨ k = 9 ∨ k = 10 ∨ k = 11 ∨ k = 12 ∨ k = 13 := by omega
  rcases this with rfl | rfl | rfl | rfl | rfl | rfl | rfl | rfl | rfl | rfl | rfl | rfl | rfl | rfl
  all_goals simp [go_sem, sigAt, signsL]
theorem sigAt_size {k : Nat} (h : k < 14) : 1 ≤ (sigAt k).size ∧ (sigAt k).size ≤ 2 := by
  have : k = 0 ∨ k = 1 ∨ k = 2 ∨ k = 3 ∨ k = 4 ∨ k = 5 ∨ k = 6 ∨ k = 7 ∨ k = 8 ∨ k = 9 ∨ k = 10 ∨ k = 11 ∨ k = 12 ∨ k = 13 := by omega
  rcases this with rfl | rfl | rfl | rfl | rfl | rfl | rfl | rfl | rfl | rfl | rfl | rfl | rfl | rfl <;> exact ⟨by decide, by decide⟩
theorem bytes_eq' {a b : ByteArray} (h : a.data.toList = b.data.toList) : a = b := by
  obtain ⟨⟨la⟩⟩ := a; obtain ⟨⟨lb⟩⟩ := b; simp at h; subst h; rfl
theorem sigAt_list (k : Nat) : (sigAt k).data.toList = signsL.getD k [] := by simp [sigAt]
theorem noSig_step {l : List UInt8} {k : Nat} (h : NoSig l k) (h1 : Lib.hasPrefix l (signsL.getD k []) = false) : NoSig l (k + 1) := by
  intro j hj
  rcases Nat.lt_or_ge j k with hh | hh
  · exact h j hh
  · obtain rfl : j = k := by omega
    exact h1
theorem prefix_take (s g : ByteArray) : ((s.extract 0 g.size).toList == g.toList) = Lib.hasPrefix s.data.toList g.data.toList := by
  rw [ByteArray.toList_eq, ByteArray.toList_eq, extract_list, Bool.eq_iff_iff]
  unfold Lib.hasPrefix
  rw [List.isPrefixOf_iff_prefix, List.prefix_iff_eq_take, beq_iff_eq]
  simp only [List.drop_zero, Nat.sub_zero, toList_len]
  exact ⟨Eq.symm, Eq.symm⟩
theorem prefix_short {l p : List UInt8} (h : l.length < p.length) : Lib.hasPrefix l p = false := by
  unfold Lib.hasPrefix
  rw [Bool.eq_false_iff]
  intro h1
  have := (List.isPrefixOf_iff_prefix.1 h1).length_le
  omega
theorem sign_text {s g : ByteArray} (hn : signL s.data.toList = g.size) (hq : ((s.extract 0 g.size).toList == g.toList) = true) : s.extract 0 (signL s.data.toList) = g := by
  rw [hn]
  rw [ByteArray.toList_eq, ByteArray.toList_eq, beq_iff_eq] at hq
  exact bytes_eq' hq
set_option maxHeartbeats 400000 in
theorem rsign_any (s : ByteArray) (w : World) :
    Calls Tryd.prog 52 #[.string s] w fun e w' => e = .returned (.string (s.extract 0 (signL s.data.toList))) ∧ Below w.heap.size w w' := by
  go_enter Tryd.func52, Tryd.ntmps52
  go_wp2_with (first | (go_at_call 70; refine (rSigns_any _).mono ?_; rintro e w1 ⟨rfl, hsig, hb, hz⟩))
  have HS := Lib.hid hsig
  have HB := Lib.hid hb
  clear hsig hb
  go_loopw [4] (fun i wr => ∃ k n : Nat, k ≤ 14 ∧ i = .int .i64 k ∧ wr = w1.drewN n ∧ NoSig s.data.toList k) (fun i _ => 14 - (intOf i).toNat)
  case atStart => exact ⟨0, 0, by omega, rfl, rfl, fun j h => absurd h (by omega)⟩
  case round =>
    obtain ⟨k, n, hk, rfl, rfl, hno⟩ := hrel
    by_cases hlt : k < 14
    · have hcell := HS.out k hlt
      have hsz := sigAt_size hlt
      obtain ⟨g, HG⟩ : ∃ g, Hid (g = sigAt k) := ⟨_, Lib.hid rfl⟩
      rw [← HG.out] at hcell hsz
      obtain ⟨hz1, hz2⟩ := hsz
      have hki : (k : Int) < 14 := by omega
      by_cases hle : g.size ≤ s.size
      · have hd : decide ((g.size : Int) ≤ (s.size : Int)) = true := by simp; omega
        cases hq : ((s.extract 0 g.size).toList == g.toList)
        · have HN : Hid (NoSig s.data.toList (k + 1)) := Lib.hid (noSig_step hno (by rw [← sigAt_list k, ← HG.out, ← prefix_take]; exact hq))
          go_wp2_with fail
          go_quiet (fail)
          go_wp2_with fail
          go_roundw
          case rel => exact ⟨k + 1, _, by omega, by go_num, rfl, HN.out⟩
          case measure => simp [intOf]; omega
        · have HF : Hid (s.extract 0 (signL s.data.toList) = g) := Lib.hid (sign_text (by rw [HG.out, ← toList_len, sigAt_list]; exact signL_sig hlt hno (by rw [← sigAt_list k, ← HG.out, ← prefix_take]; exact hq)) hq)
          go_wp2_with fail
          go_quiet (fail)
          go_wp2_with fail
          go_ret
          exact ⟨by rw [HF.out]; rfl, below_drewN HB.out _⟩
      · have hd : decide ((g.size : Int) ≤ (s.size : Int)) = false := by simp; omega
        have hd' : decide (g.size ≤ s.size) = false := by simp; omega
        have HN : Hid (NoSig s.data.toList (k + 1)) := Lib.hid (noSig_step hno (prefix_short (by rw [← sigAt_list k, ← HG.out]; simp; omega)))
        go_wp2_with fail
        go_quiet (fail)
        go_wp2_with fail
        go_roundw
        case rel => exact ⟨k + 1, _, by omega, by go_num, rfl, HN.out⟩
        case measure => simp [intOf]; omega
    · obtain rfl : k = 14 := by omega
      have HF : Hid (s.extract 0 (signL s.data.toList) = ⟨#[]⟩) := Lib.hid (by rw [signL_none hno]; exact bytes_eq' (by rw [extract_list]; simp))
      go_wp2_with fail
      go_ret
      exact ⟨by rw [HF.out]; rfl, below_drewN HB.out _⟩
end Go.Proofs.YtckkfenchjgfhaaDoor
