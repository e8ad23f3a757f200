/- The reference's Print, for tokens that are not great. -/
import Derived.Test.YtckkfenchjgfhaaDoorLexO
import Derived.Test.YtckkfenchjgfhaaDoorRefF
namespace Go.Proofs.YtckkfenchjgfhaaDoor
open Go.RowKit

theorem rprint_zero (A : Option Addr) (c : Nat) (w : World) :
    Calls Tryd.prog 26 #[.slice A 0 c] w (PrintPost w []) := by
  go_enter Tryd.func26, Tryd.ntmps26
  go_wp2_with fail
  go_loop [5] (fun i => i = .int .i64 0) (fun _ => 0)
  case atStart => rfl
  case round =>
    subst hrel
    go_wp2_with fail
    go_loop [4, 7] (fun o i => o = .string ⟨#[]⟩ ∧ i = .int .i64 0) (fun _ _ => 0)
    case atStart => exact ⟨rfl, rfl⟩
    case round =>
      obtain ⟨rfl, rfl⟩ := hrel
      go_wp2_with fail
      go_ret2
      exact ⟨rfl, Below.refl _ _⟩
def RPrintRel1 (w : World) (ts : List Tok) (i : Value) (wr : World) : Prop := ∃ k : Nat, k ≤ ts.length ∧ i = .int .i64 k ∧ Below w.heap.size w wr ∧ ∀ j (hj : j < ts.length), j < k → checkT ts[j] = 0
def RPrintRel2 (ts : List Tok) (o i : Value) : Prop := ∃ (k : Nat) (t : ByteArray), k ≤ ts.length ∧ i = .int .i64 k ∧ o = .string t ∧ t.data.toList = joinL (ts.take k)
set_option maxRecDepth 100000 in
set_option maxHeartbeats 1000000 in
theorem rprint_pos (b off c : Nat) (ts : List Tok) (w : World) (h0 : 0 < ts.length) (hn : ts.length ≤ 60) (hs : ∀ t ∈ ts, t.text.length ≤ 120) (hb : b < w.heap.size) (hT : ∀ k (h : k < ts.length), TokAt w b (off + k * 3) ts[k]) :
    Calls Tryd.prog 26 #[.slice (some ⟨b, off, none⟩) ts.length c] w (PrintPost w ts) := by
  have HT := Lib.hid hT
  have HS := Lib.hid hs
  clear hT hs
  go_enter Tryd.func26, Tryd.ntmps26
  go_wp2_with fail
  go_loopw [5, 6] (fun i _ wr => RPrintRel1 w ts i wr) (fun i _ _ => ts.length - (intOf i).toNat)
  case atStart => exact ⟨0, by omega, rfl, Below.refl _ _, fun _ _ h => absurd h (by omega)⟩
  case round =>
    obtain ⟨k, hk, rfl, hB, hok⟩ := hrel
    have HOK := Lib.hid hok
    clear hok
    by_cases hlt : k < ts.length
    · obtain ⟨a0, a1, a2⟩ := (HT.out k hlt).below (hB.mono (Nat.le_refl _)) hb
      have hki : (k : Int) < (ts.length : Int) := by omega
      have HC : Hid (∀ W, Calls Tryd.prog 24 #[.agg #[.int .i64 ts[k].kind, .string ⟨ts[k].text.toArray⟩, .int .i64 ts[k].pos]] W fun e w' => e = .returned (.int .i64 (checkT ts[k])) ∧ Below W.heap.size W w') := Lib.hid (fun W => rcheck_any ts[k].kind ts[k].pos ⟨ts[k].text.toArray⟩ W)
      by_cases hck : checkT ts[k] = 0
      · have HN : Hid (∀ j (hj : j < ts.length), j < k + 1 → checkT ts[j] = 0) := Lib.hid (fun j hj hlt' => by
          rcases Nat.lt_or_ge j k with hh | hh
          · exact HOK.out j hj hh
          · obtain rfl : j = k := by omega
            exact hck)
        rw [hck] at HC
        generalize (⟨ts[k].text.toArray⟩ : ByteArray) = T at *
        generalize ts[k].kind = K at *
        generalize ts[k].pos = P at *
        clear hck
        go_wp2_with (first | (go_at_call 24; refine (HC.out _).mono ?_; rintro e w1 ⟨rfl, hb1⟩; have HB1 := Lib.hid hb1; clear hb1))
        go_roundw
        case rel => exact ⟨k + 1, by omega, by go_num, hB.trans (HB1.out.mono hB.size), HN.out⟩
        case measure => simp [intOf]; omega
      · have HF := Lib.hid (firstErr_at hlt HOK.out hck)
        have HNZ : Hid (printL ts = []) := Lib.hid (printL_err (by rw [HF.out]; exact hck))
        have hbn : (checkT ts[k] != 0) = true := by simpa [bne] using hck
        generalize (⟨ts[k].text.toArray⟩ : ByteArray) = T at *
        generalize ts[k].kind = K at *
        generalize ts[k].pos = P at *
        generalize checkT ts[k] = C at *
        clear hck
        go_wp2_with (first | (go_at_call 24; refine (HC.out _).mono ?_; rintro e w1 ⟨rfl, hb1⟩; have HB1 := Lib.hid hb1; clear hb1))
        go_ret2
        exact ⟨by rw [HNZ.out, HF.out]; rfl, hB.trans (HB1.out.mono hB.size)⟩
    · obtain rfl : k = ts.length := by omega
      have HFE : Hid (firstErr ts = 0) := Lib.hid (firstErr_all (fun t ht => by obtain ⟨j, hj, rfl⟩ := List.getElem_of_mem ht; exact HOK.out j hj hj))
      have HPR : Hid (printL ts = joinL ts) := Lib.hid (printL_ok HFE.out)
      obtain ⟨w2, hw2⟩ : ∃ w2 : World, w2 = wr := ⟨_, rfl⟩
      subst hw2
      go_wp2_with fail
      go_loop [4, 7] (fun o i => RPrintRel2 ts o i) (fun _ i => ts.length - (intOf i).toNat)
      case atStart => exact ⟨0, ⟨#[]⟩, by omega, rfl, rfl, rfl⟩
      case round =>
        obtain ⟨k, t, hk, rfl, rfl, ht⟩ := hrel
        have HL := Lib.hid ht
        have hjl : t.size ≤ 7260 := by
          rw [← toList_len, ht]; exact Nat.le_trans (joinL_len _) (sizes_bound hn HS.out k)
        clear ht
        by_cases hlt : k < ts.length
        · obtain ⟨a0, a1, a2⟩ := (HT.out k hlt).below (hB.mono (Nat.le_refl _)) hb
          have hki : (k : Int) < (ts.length : Int) := by omega
          have HTs : Hid ((⟨ts[k].text.toArray⟩ : ByteArray).size = ts[k].text.length) := Lib.hid (by simp [ByteArray.size])
          have hTs : (⟨ts[k].text.toArray⟩ : ByteArray).size ≤ 120 := by rw [HTs.out]; exact HS.out _ (List.getElem_mem _)
          have HTl : Hid ((⟨ts[k].text.toArray⟩ : ByteArray).data.toList = ts[k].text) := Lib.hid (by simp)
          by_cases hz0 : k = 0
          · subst hz0
            have HJ := Lib.hid (join_first h0)
            have HE : Hid (t.data.toList = []) := HL
            generalize (⟨ts[0].text.toArray⟩ : ByteArray) = T at *
            simp only [Nat.zero_mul, Nat.add_zero] at a0 a1 a2
            go_wp2_with fail
            go_round
            case rel => exact ⟨1, _, by omega, by go_num, rfl, by rw [ByteArray.data_append, Array.toList_append, HE.out, HTl.out, HJ.out]; rfl⟩
            case measure => simp [intOf]; omega
          · have hkp : decide ((0 : Int) < (k : Int)) = true := by simp; omega
            have hkp' : 0 < k := by omega
            have HJ := Lib.hid (join_step hlt hkp')
            generalize (⟨ts[k].text.toArray⟩ : ByteArray) = T at *
            clear hz0
            go_wp2_with fail
            go_round
            case rel => exact ⟨k + 1, _, by omega, by go_num, rfl, by rw [ByteArray.data_append, Array.toList_append, ByteArray.data_append, Array.toList_append, HL.out, HTl.out, HJ.out]⟩
            case measure => simp [intOf]; omega
        · obtain rfl : k = ts.length := by omega
          go_wp2_with fail
          go_ret2
          refine ⟨?_, hB⟩
          rw [HPR.out, HFE.out, bytes_eq (a := t) (by rw [HL.out, List.take_length])]; rfl
theorem rprint_any {v : Value} {ts : List Tok} {w : World} (h : ToksAt w v ts) (hg : greatL ts = false) :
    Calls Tryd.prog 26 #[v] w (PrintPost w ts) := by
  obtain ⟨hn, hs⟩ := greatL_small hg
  obtain ⟨A, c, rfl, _, h3⟩ := h
  rcases Nat.eq_zero_or_pos ts.length with h0 | h0
  · obtain rfl := List.eq_nil_of_length_eq_zero h0
    exact rprint_zero A c w
  · obtain ⟨b, off, rfl, hb, hT⟩ := h3 h0
    exact rprint_pos b off c ts w h0 hn hs hb hT
end Go.Proofs.YtckkfenchjgfhaaDoor
