/- LexerPrint: for every list of tokens the law returns true. -/
import Derived.Test.YtckkfenchjgfhaaDoorLexM
import Derived.Test.YtckkfenchjgfhaaDoorRefJ
import Derived.Deep.RegionWith
import Derived.Test.YtckkfenchjgfhaaDoorWorld
namespace Go.Proofs.YtckkfenchjgfhaaDoor
open Go.RowKit

theorem lawPrint_great {v : Value} {ts : List Tok} {w : World} (h : ToksAt w v ts) (hg : greatL ts = true) :
    Calls Tryd.prog 7 #[v] w fun e w' => e = .returned (.bool true) ∧ Below w.heap.size w w' := by
  have HG := Lib.hid (rGreat_any h)
  rw [hg] at HG
  clear hg
  obtain ⟨A, c, rfl, _, _⟩ := h
  go_enter Tryd.func7, Tryd.ntmps7
  go_wp2_with (first | (go_at_call 22; refine (HG.out).mono ?_; rintro e w' ⟨rfl, rfl⟩) | (go_at_call 10; refine (awake_any _).mono ?_; rintro e w' ⟨rfl, hb⟩))
  go_ret
  exact ⟨rfl, hb⟩
set_option maxHeartbeats 1000000 in
theorem lawPrint_pos (b off c : Nat) (ts : List Tok) (w : World) (h : ToksAt w (.slice (some ⟨b, off, none⟩) ts.length c) ts) (h0 : 0 < ts.length) (hg : greatL ts = false) (hb : b < w.heap.size) (hT : ∀ k (h : k < ts.length), TokAt w b (off + k * 3) ts[k]) :
    Calls Tryd.prog 7 #[.slice (some ⟨b, off, none⟩) ts.length c] w fun e w' => e = .returned (.bool true) ∧ Below w.heap.size w w' := by
  have HG := Lib.hid (rGreat_any h)
  have hn := (greatL_small hg).1
  rw [hg] at HG
  have HGF := Lib.hid hg
  have HH := Lib.hid h
  have HT := Lib.hid hT
  clear hg h hT
  go_enter Tryd.func7, Tryd.ntmps7
  go_wp2_with (first | (go_at_call 22; refine (HG.out).mono ?_; rintro e w' ⟨rfl, rfl⟩))
  go_loopw [4, 14] (fun _ i wr => ∃ k : Nat, k ≤ ts.length ∧ i = .int .i64 k ∧ Below w.heap.size w wr) (fun _ i _ => ts.length - (intOf i).toNat)
  case atStart => exact ⟨0, by omega, rfl, Below.refl _ _⟩
  case round =>
    obtain ⟨k, hk, rfl, hB⟩ := hrel
    by_cases hlt : k < ts.length
    · obtain ⟨a0, a1, a2⟩ := (HT.out k hlt).below (hB.mono (Nat.le_refl _)) hb
      have hki : (k : Int) < (ts.length : Int) := by omega
      have HC : Hid (∀ W, Calls Tryd.prog 23 #[.agg #[.int .i64 ts[k].kind, .string ⟨ts[k].text.toArray⟩, .int .i64 ts[k].pos]] W fun e w' => e = .returned (.int .i64 (checkT ts[k])) ∧ Below W.heap.size W w') := Lib.hid (fun W => check_any ts[k].kind ts[k].pos ⟨ts[k].text.toArray⟩ W)
      have HR : Hid (∀ W, Calls Tryd.prog 24 #[.agg #[.int .i64 ts[k].kind, .string ⟨ts[k].text.toArray⟩, .int .i64 ts[k].pos]] W fun e w' => e = .returned (.int .i64 (checkT ts[k])) ∧ Below W.heap.size W w') := Lib.hid (fun W => rcheck_any ts[k].kind ts[k].pos ⟨ts[k].text.toArray⟩ W)
      have hne : (checkT ts[k] != checkT ts[k]) = false := by simp
      generalize (⟨ts[k].text.toArray⟩ : ByteArray) = T at *
      generalize ts[k].kind = K at *
      generalize ts[k].pos = P at *
      generalize checkT ts[k] = C at *
      go_wp2_with fail
      go_region_with (first | (go_at_call 23; refine (HC.out _).mono ?_; rintro e w1 ⟨rfl, hb1⟩; obtain ⟨hc1, hf1⟩ := bcell hb1) | (go_at_call 24; refine (HR.out _).mono ?_; rintro e w2 ⟨rfl, hb2⟩; obtain ⟨hc2, hf2⟩ := bcell hb2))
      all_goals
        have HB1 := Lib.hid hb1
        have HB2 := Lib.hid hb2
        clear hb1 hb2 hc1 hf1 hc2 hf2
        go_wp2_with fail
        go_roundw
        case rel =>
          refine ⟨k + 1, by omega, by go_num, ?_⟩
          have h1 := HB1.out.size
          have h2 := hB.size
          simp at h1
          exact ((below_drew1 (hB.alloc hB.size _)).trans (HB1.out.mono (by simp; omega))).trans (HB2.out.mono (by omega))
        case measure => simp [intOf]; omega
    · have HP : Hid (∀ W, Below w.heap.size w W → Calls Tryd.prog 25 #[.slice (some ⟨b, off, none⟩) ts.length c] W (PrintPost W ts)) := Lib.hid (fun W hW => print_any (HH.out.below hW) HGF.out)
      have HQ : Hid (∀ W, Below w.heap.size w W → Calls Tryd.prog 26 #[.slice (some ⟨b, off, none⟩) ts.length c] W (PrintPost W ts)) := Lib.hid (fun W hW => rprint_any (HH.out.below hW) HGF.out)
      have hce : (firstErr ts == firstErr ts) = true := by simp
      go_wp2_with (first
        | (go_at_call 25; refine (HP.out _ hB).mono ?_; rintro e w1 ⟨rfl, hb1⟩; have HB1 := Lib.hid (hB.trans (hb1.mono hB.size)); clear hb1)
        | (go_at_call 26; refine (HQ.out _ HB1.out).mono ?_; rintro e w2 ⟨rfl, hb2⟩; have HB2 := Lib.hid (HB1.out.trans (hb2.mono HB1.out.size)); clear hb2)
        | (go_at_call 10; refine (awake_any _).mono ?_; rintro e w3 ⟨rfl, hb3⟩))
      go_ret
      exact ⟨rfl, HB2.out.trans (hb3.mono HB2.out.size)⟩
set_option maxHeartbeats 400000 in
theorem lawPrint_zero (A : Option Addr) (c : Nat) (w : World) (h : ToksAt w (.slice A 0 c) []) :
    Calls Tryd.prog 7 #[.slice A 0 c] w fun e w' => e = .returned (.bool true) ∧ Below w.heap.size w w' := by
  have HG := Lib.hid (rGreat_any h)
  have HP : Hid (∀ W, Calls Tryd.prog 25 #[.slice A 0 c] W (PrintPost W [])) := Lib.hid (fun W => print_zero A c W)
  have HQ : Hid (∀ W, Calls Tryd.prog 26 #[.slice A 0 c] W (PrintPost W [])) := Lib.hid (fun W => rprint_zero A c W)
  clear h
  go_enter Tryd.func7, Tryd.ntmps7
  go_wp2_with (first | (go_at_call 22; refine (HG.out).mono ?_; rintro e w' ⟨rfl, rfl⟩))
  go_loop [14] (fun i => i = .int .i64 0) (fun _ => 0)
  case atStart => rfl
  case round =>
    subst hrel
    go_wp2_with (first
        | (go_at_call 25; refine (HP.out _).mono ?_; rintro e w1 ⟨rfl, hb1⟩)
        | (go_at_call 26; refine (HQ.out _).mono ?_; rintro e w2 ⟨rfl, hb2⟩)
        | (go_at_call 10; refine (awake_any _).mono ?_; rintro e w3 ⟨rfl, hb3⟩))
    go_ret
    exact ⟨rfl, (hb1.trans (hb2.mono hb1.size)).trans (hb3.mono (Nat.le_trans hb1.size hb2.size))⟩
theorem lawPrint_any {v : Value} {ts : List Tok} {w : World} (h : ToksAt w v ts) :
    Calls Tryd.prog 7 #[v] w fun e w' => e = .returned (.bool true) ∧ Below w.heap.size w w' := by
  cases hg : greatL ts
  · have h' := h
    obtain ⟨A, c, rfl, _, h3⟩ := h
    rcases Nat.eq_zero_or_pos ts.length with h0 | h0
    · obtain rfl := List.eq_nil_of_length_eq_zero h0
      exact lawPrint_zero A c w h'
    · obtain ⟨b, off, rfl, hb, hT⟩ := h3 h0
      exact lawPrint_pos b off c ts w h' h0 hg hb hT
  · exact lawPrint_great h hg
end Go.Proofs.YtckkfenchjgfhaaDoor
