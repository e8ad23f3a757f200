/- The reference's Scan, for every text. -/
import Derived.Test.YtckkfenchjgfhaaDoorRefG
namespace Go.Proofs.YtckkfenchjgfhaaDoor
open Go.RowKit

theorem checkL_nonneg {k p : Int} {l : List UInt8} (h : 0 ≤ p) : checkL k l p = checkL k l 0 := by
  unfold checkL
  rw [if_neg (show ¬ p < 0 by omega), if_neg (show ¬ (0 : Int) < 0 by omega)]
def RScanRel (w : World) (s : ByteArray) (v i : Value) (wr : World) : Prop := ∃ (k f : Nat) (acc : List Tok), k ≤ s.size ∧ s.size < k + skipL (s.data.toList.drop k) + f ∧ acc.length ≤ k ∧ i = .int .i64 k ∧
  wr.ownsRow w.heap.size 35 3 v acc.length (toksCells acc) ∧ (acc = [] → v = .slice none 0 0) ∧ Below w.heap.size w wr ∧ scanT f (s.data.toList.drop (k + skipL (s.data.toList.drop k))) (k + skipL (s.data.toList.drop k)) acc = scanAll s.data.toList
theorem rscan_long (s : ByteArray) (w : World) (h : 65536 < s.size) :
    Calls Tryd.prog 16 #[.string s] w fun e w' => e = .returned (.tuple #[.slice none 0 0, .int .i64 0, .int .i64 4]) ∧ w = w' := by
  go_enter Tryd.func16, Tryd.ntmps16
  go_wp2_with fail
  go_ret3
  exact ⟨rfl, rfl⟩
/-- the step over what separates tokens -/
theorem rscan_skip {s : ByteArray} {k n : Nat} (h : skipL (s.data.toList.drop k) = n + skipL (s.data.toList.drop (k + n))) : k + skipL (s.data.toList.drop k) = k + n + skipL (s.data.toList.drop (k + n)) := by omega
set_option maxRecDepth 100000 in
set_option maxHeartbeats 2000000 in
theorem rscan_short (s : ByteArray) (w : World) (h : s.size ≤ 65536) :
    Calls Tryd.prog 16 #[.string s] w (ScanPost w s) := by
  have hgt : decide (65536 < (s.size : Int)) = false := by simp; omega
  obtain ⟨i0, hi0, hz0, hz1, hz2⟩ := info_parts tokInfo
  have HS : Hid (scanT (s.size + 1) (s.data.toList.drop (0 + skipL (s.data.toList.drop 0))) (0 + skipL (s.data.toList.drop 0)) [] = scanAll s.data.toList) := Lib.hid (by unfold scanAll; simp)
  go_enter Tryd.func16, Tryd.ntmps16
  go_wp2_with fail
  go_loopw [5, 6, 7] (fun v i _ wr => RScanRel w s v i wr) (fun _ i _ _ => s.size - (intOf i).toNat)
  case atStart => exact ⟨0, s.size + 1, [], by omega, by omega, Nat.zero_le _, rfl, ⟨rfl, .inl ⟨rfl, rfl⟩⟩, fun _ => rfl, Below.refl _ _, HS.out⟩
  case round =>
    obtain ⟨k, f, acc, hk, hf, hacc, rfl, hown, hnil, hB, hS⟩ := hrel
    have HS1 := Lib.hid hS
    have HF := Lib.hid hf
    have HO := Lib.hid hown
    have HN := Lib.hid hnil
    clear hS HS hf hown hnil
    by_cases hlt : k < s.size
    · have HD := Lib.hid (drop_get s k hlt)
      cases h32 : (((s[k]'hlt).toNat : Int) == 32)
      · cases h10 : (((s[k]'hlt).toNat : Int) == 10)
        · cases h35 : (((s[k]'hlt).toNat : Int) == 35)
          · have HZ : Hid (skipL (s.data.toList.drop k) = 0) := Lib.hid (by rw [HD.out, skipL_stop h32 h10 h35])
            have hle : (nextL (s.data.toList.drop k)).2 ≤ s.size - k := by
              have := nextL_le (s.data.toList.drop k) (by simp; omega)
              simpa using this
            obtain ⟨T, HT⟩ : ∃ T, Hid (T = s.extract k (k + (nextL (s.data.toList.drop k)).2)) := ⟨_, Lib.hid rfl⟩
            have HTl : Hid (T.data.toList = (s.data.toList.drop k).take (nextL (s.data.toList.drop k)).2) := Lib.hid (by rw [HT.out, extract_list]; simp)
            have HTs : Hid (T.size = (nextL (s.data.toList.drop k)).2) := Lib.hid (by rw [HT.out]; simp; omega)
            have hTs : T.size ≤ s.size - k := by rw [HTs.out]; exact hle
            have Hc : Hid (∀ W, Calls Tryd.prog 35 #[.string s, .int .i64 k] W fun e w' => e = .returned (.agg #[.int .i64 (nextL (s.data.toList.drop k)).1, .string T, .int .i64 k]) ∧ Below W.heap.size W w') := Lib.hid (fun W => by
              have h1 := rnext_any s k W h hlt
              rw [← HT.out] at h1
              exact h1)
            have Hk : Hid (∀ W, Calls Tryd.prog 24 #[.agg #[.int .i64 (nextL (s.data.toList.drop k)).1, .string T, .int .i64 k]] W fun e w' => e = .returned (.int .i64 (checkL (nextL (s.data.toList.drop k)).1 T.data.toList 0)) ∧ Below W.heap.size W w') := Lib.hid (fun W => by
              have h1 := rcheck_any (nextL (s.data.toList.drop k)).1 k T W
              rw [checkL_nonneg (p := (k : Int)) (by omega)] at h1
              exact h1)
            have HZ1 : Hid (k + skipL (s.data.toList.drop k) = k) := Lib.hid (by rw [HZ.out]; rfl)
            have HS2 : Hid (scanT f (s.data.toList.drop k) k acc = scanAll s.data.toList) := Lib.hid (by have := HS1.out; rw [HZ1.out] at this; exact this)
            have hfk : s.size < k + f := by have := HF.out; rw [HZ.out] at this; exact this
            obtain ⟨f', rfl⟩ : ∃ f', f = f' + 1 := ⟨f - 1, by omega⟩
            cases hok : okNext (s.data.toList.drop k)
            · have HE : Hid (scanAll s.data.toList = ([], some k)) := Lib.hid (by rw [← HS2.out, scanT_err (by simp; omega) hok])
              have hcn : (checkL (nextL (s.data.toList.drop k)).1 T.data.toList 0 != 0) = true := by rw [HTl.out]; simpa [okNext, bne] using hok
              generalize (nextL (s.data.toList.drop k)).1 = K at *
              generalize checkL K T.data.toList 0 = C at *
              clear hok
              go_wp2_with (first
                | (go_at_call 35; refine (Hc.out _).mono ?_; rintro e w1 ⟨rfl, hb⟩; have HB := Lib.hid hb; clear hb)
                | (go_at_call 24; refine (Hk.out _).mono ?_; rintro e w2 ⟨rfl, hb⟩; have HB' := Lib.hid hb; clear hb))
              go_ret3
              exact ⟨_, _, _, rfl, ((hB.trans (HB.out.mono hB.size)).alloc (Nat.le_trans hB.size HB.out.size) _).trans (HB'.out.mono (by have h1 := hB.size; have h2 := HB.out.size; simp; omega)), .inr ⟨k, HE.out, hlt, rfl, rfl, rfl⟩⟩
            · have hcn : (checkL (nextL (s.data.toList.drop k)).1 T.data.toList 0 != 0) = false := by rw [HTl.out]; simpa [okNext, bne] using hok
              have hpos : 0 < T.size := by rw [HTs.out]; exact okNext_pos hok
              have HE := Lib.hid (HS2.out.symm.trans (scanT_step (by simp; omega) hok))
              have HA : Hid (advL (s.data.toList.drop k) = T.size + skipL (s.data.toList.drop (k + T.size))) := Lib.hid (by rw [HTs.out, ← List.drop_drop]; rfl)
              have HK : Hid (tokL (s.data.toList.drop k) k = ⟨(nextL (s.data.toList.drop k)).1, T.data.toList, k⟩) := Lib.hid (by rw [HTl.out]; rfl)
              generalize (nextL (s.data.toList.drop k)).1 = K at *
              generalize checkL K T.data.toList 0 = C at *
              clear hok hle HT HTl HTs HS1
              go_wp2_with (first
                | (go_at_call 35; refine (Hc.out _).mono ?_; rintro e w1 ⟨rfl, hb⟩; have HB := Lib.hid hb; clear hb)
                | (go_at_call 24; refine (Hk.out _).mono ?_; rintro e w2 ⟨rfl, hb⟩; obtain ⟨hc, hfz⟩ := bcell hb; have HB' := Lib.hid hb; clear hb)
                | (at_builtin; refine wpList_append_own _ rfl _ _ 24 rfl w.heap.size 35 i0 _ 3 32 Tryd.underlying24 hi0 hz0 hz1 hz2 rfl (by decide) _ _ _ rfl ((owns_below ((owns_below HO.out HB.out).alloc _) HB'.out).alloc _) ⟨w2.heap.size, 0, none⟩ 1 1 [.int .i64 K, .string T, .int .i64 k] rfl rfl ?c1 ?c2 ?c3 ?c4 ?c5 ?_))
              case c1 => exact cell3_at w2 35 (Value.int IntKind.i64 K) (Value.string T) (Value.int IntKind.i64 ↑k)
              case c2 => intro u hu; simp at hu; rcases hu with rfl | rfl | rfl <;> rfl
              case c3 => unfold maxLen; omega
              case c4 => omega
              case c5 => have h1 := hB.size; have h2 := HB.out.size; have h3 := HB'.out.size; simp at h3; simp; omega
              intro v' w3 hown2 hgrow hne
              have hsz1 := HB'.out.size
              simp only [World.size_alloc] at hsz1
              have hown1 := owns_below ((owns_below HO.out HB.out).alloc (.cells #[.int .i64 K, .string T, .int .i64 k] 35)) HB'.out
              have hlt5 := hown1.lt
              have hne5 : some (w1.heap.size) ≠ u5.ownBlock := fun e => by
                have h1 := ((owns_below HO.out HB.out).lt _ e.symm).2
                omega
              have hnew := cell3_new w1 35 (Value.int IntKind.i64 K) (Value.string T) (Value.int IntKind.i64 ↑k)
              have hT1 : w3.cell? ⟨w1.heap.size, 1, none⟩ = some (.string T) := hgrow.cell (a := ⟨w1.heap.size, 1, none⟩) ((((Below.refl _ _).alloc (Nat.le_refl _) _).cell (p := ⟨w1.heap.size, 1, none⟩) (by show w1.heap.size < w2.heap.size; omega)).trans ((HB'.out.cell (p := ⟨w1.heap.size, 1, none⟩) (by simp)).trans hnew.2.1)) hne5
              have HB2 : Hid (Below w.heap.size w w3) := Lib.hid (((((hB.trans (HB.out.mono hB.size)).alloc (Nat.le_trans hB.size HB.out.size) _).trans (HB'.out.mono (by have h1 := hB.size; have h2 := HB.out.size; simp; omega))).alloc (by have h1 := hB.size; have h2 := HB.out.size; omega) _).grown hgrow (by have h1 := hB.size; have h2 := HB.out.size; simp; omega) (fun k e => (hlt5 k e).1))
              have HO2 := Lib.hid hown2
              have HNE := Lib.hid hne
              clear hown1 hown2 hgrow hne hlt5 hne5 hnew hc hfz
              go_wp2_with fail
              go_roundw
              case rel =>
                refine ⟨k + T.size, f', acc ++ [⟨K, T.data.toList, k⟩], by omega, by omega, by simp; omega, by go_num, ?_, fun h => by simp at h, HB2.out, ?_⟩
                · rw [toksCells_snoc]; simpa [tokCells] using HO2.out
                · have h1 := HE.out
                  rw [HA.out, HK.out, List.drop_drop] at h1
                  rw [h1, Nat.add_assoc]
              case measure => simp [intOf]; omega
          · obtain ⟨wo, hwo⟩ : ∃ wo : World, wo = wr := ⟨_, rfl⟩
            subst hwo
            go_wp2_with fail
            go_loop [6] (fun i => ∃ j : Nat, k + j ≤ s.size ∧ i = .int .i64 ((k + j : Nat) : Int) ∧ runTo lineB (s.data.toList.drop k) j) (fun i => s.size - (intOf i).toNat)
            case atStart => exact ⟨0, by omega, rfl, runTo_zero _ _⟩
            case round =>
              obtain ⟨j, hj, rfl, hto⟩ := hrel
              have fin : (∀ hh : j < (s.data.toList.drop k).length, lineB ((s.data.toList.drop k)[j]) = false) → Hid (0 < j ∧ k + skipL (s.data.toList.drop k) = k + j + skipL (s.data.toList.drop (k + j))) := fun hstop => Lib.hid (by
                have hr := runL_eq (p := lineB) (l := s.data.toList.drop k) (k := j) (by simp; omega) hto hstop
                have hp : 0 < runL lineB (s.data.toList.drop k) := by rw [HD.out]; exact runL_pos (by simp only [lineB, bne, h10]; rfl)
                refine ⟨by omega, rscan_skip ?_⟩
                have h1 := skipL_hash (r := s.data.toList.drop (k + 1)) h32 h10 h35
                rw [← HD.out, hr, List.drop_drop] at h1
                exact h1)
              by_cases hlj : k + j < s.size
              · have HG : Hid (∀ h, (s.data.toList.drop k)[j]'h = s[k + j]) := Lib.hid (fun h => by rw [List.getElem_drop]; rfl)
                cases hr : (((s[k + j]'hlj).toNat : Int) != 10)
                · have HQ := fin (fun hh => by rw [HG.out hh]; exact hr)
                  clear fin h32 h10 h35
                  go_wp2_with fail
                  go_roundw
                  case rel => exact ⟨k + j, f, acc, by omega, by have := HF.out; rw [HQ.out.2] at this; exact this, by omega, by go_num, HO.out, HN.out, hB, by rw [← HQ.out.2]; exact HS1.out⟩
                  case measure => have := HQ.out.1; simp [intOf]; omega
                · clear fin h32 h10 h35
                  go_wp2_with fail
                  go_round
                  case rel =>
                    refine ⟨j + 1, by omega, by go_num, fun a ha hlt' => ?_⟩
                    rcases Nat.lt_or_ge a j with hh | hh
                    · exact hto a ha hh
                    · obtain rfl : a = j := by omega
                      rw [HG.out ha]; exact hr
                  case measure => simp [intOf]; omega
              · have HQ := fin (fun hh => absurd hh (by simp; omega))
                clear fin h32 h10 h35
                go_wp2_with fail
                go_roundw
                case rel => exact ⟨k + j, f, acc, by omega, by have := HF.out; rw [HQ.out.2] at this; exact this, by omega, by go_num, HO.out, HN.out, hB, by rw [← HQ.out.2]; exact HS1.out⟩
                case measure => have := HQ.out.1; simp [intOf]; omega
        · have HQ := Lib.hid (rscan_skip (s := s) (k := k) (n := 1) (by rw [HD.out, skipL_blank (.inr h10)]))
          go_wp2_with fail
          go_roundw
          case rel => exact ⟨k + 1, f, acc, by omega, by have := HF.out; rw [HQ.out] at this; exact this, by omega, by go_num, HO.out, HN.out, hB, by rw [← HQ.out]; exact HS1.out⟩
          case measure => simp [intOf]; omega
      · have HQ := Lib.hid (rscan_skip (s := s) (k := k) (n := 1) (by rw [HD.out, skipL_blank (.inl h32)]))
        go_wp2_with fail
        go_roundw
        case rel => exact ⟨k + 1, f, acc, by omega, by have := HF.out; rw [HQ.out] at this; exact this, by omega, by go_num, HO.out, HN.out, hB, by rw [← HQ.out]; exact HS1.out⟩
        case measure => simp [intOf]; omega
    · have HE : Hid (scanAll s.data.toList = (acc, none)) := Lib.hid (by rw [← HS1.out, scanT_end (by simp; omega)])
      go_wp2_with fail
      go_ret3
      exact ⟨_, _, _, rfl, hB, .inl ⟨acc, HE.out, rfl, rfl, HO.out, HN.out, by omega⟩⟩
end Go.Proofs.YtckkfenchjgfhaaDoor
